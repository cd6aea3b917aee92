/- Package format: general. -/
import Derived.Test.YtflbhifdololfaaGreatDoorP15
import Derived.Lib.IndexLaws
namespace Go.Proofs.YtflbhifdololfaaGreatDoor
open Go.RowKit
set_option linter.unusedVariables false

theorem fixedL_len (l : List UInt8) (p : Nat) : (fixedL l p).length ≤ l.length + p + 2 := by
  unfold fixedL
  split
  · split
    · simp; omega
    · simp; omega
  · split
    · simp; omega
    · show l.length ≤ _
      omega
theorem ix_of_mem {l : List UInt8} {c : UInt8} (h : c ∈ l) : ∃ o : Nat, Lib.indexByte l c = (o : Int) ∧ o < l.length := by
  have h1 := Lib.indexByte_ge l c
  by_cases h2 : Lib.indexByte l c = -1
  · obtain ⟨k, hk, hc⟩ := List.mem_iff_getElem.1 h
    exact absurd (by rw [List.getElem?_eq_getElem hk, hc]) (Lib.indexByte_none h2 k)
  · obtain ⟨o, ho⟩ : ∃ o : Nat, Lib.indexByte l c = (o : Int) := ⟨(Lib.indexByte l c).toNat, by omega⟩
    refine ⟨o, ho, ?_⟩
    have h3 := (Lib.indexByte_some ho).1
    exact (List.getElem?_eq_some_iff.1 h3).1
theorem sciO_facts {b p : Nat} {alt : Bool} (h : SciOk b p) (hp : p ≤ 200) : (sciO b p alt).size ≤ 1000 ∧ (101 : UInt8) ∈ (sciO b p alt).data.toList := by
  have hl := h.len
  have h1 := h.lo
  have h2 := h.hi
  have hT := itoa_short (n := (sciE b p).natAbs) (by omega)
  constructor
  · rw [sz_list]
    unfold sciO
    dsimp only
    split <;> split <;> split <;> simp <;> omega
  · unfold sciO
    dsimp only
    split <;> split <;> split <;> simp

/-- a float without needless noughts, of p + 1 digits -/
noncomputable def genB (b p : Nat) : Bool := decide (sciE b p < -4) || decide ((p : Int) + 1 ≤ sciE b p)
noncomputable def genX (b p : Nat) : ByteArray := sciO b p true
noncomputable def genI (b p : Nat) : Nat := (Lib.indexByte (genX b p).data.toList 101).toNat
noncomputable def genF (b p : Nat) : ByteArray := ⟨(fixT b ((p : Int) - sciE b p).toNat).toArray⟩
noncomputable def genH (b p : Nat) : ByteArray :=
  if genB b p then (genX b p).extract 0 (genI b p) else if 0 ≤ Lib.indexByte (genF b p).data.toList 46 then genF b p else genF b p ++ ⟨#[46]⟩
noncomputable def genT (b p : Nat) : ByteArray := if genB b p then (genX b p).extract (genI b p) (genX b p).size else ⟨#[]⟩
def bareS (s : ByteArray) : ByteArray := ⟨(Lib.trimSuffix (Lib.trimRightB s.data.toList 48) [46]).toArray⟩
noncomputable def genO (b p : Nat) (alt : Bool) : ByteArray := (if alt then genH b p else bareS (genH b p)) ++ genT b p
theorem bareS_size (s : ByteArray) : (bareS s).size ≤ s.size := by
  rw [sz_list, sz_list]
  show (Lib.trimSuffix (Lib.trimRightB s.data.toList 48) [46]).length ≤ _
  have h1 : (Lib.trimRightB s.data.toList 48).length ≤ s.data.toList.length := by
    unfold Lib.trimRightB
    rw [List.length_reverse]
    exact Nat.le_trans (List.dropWhile_sublist _).length_le (by simp)
  unfold Lib.trimSuffix
  split
  · rw [List.length_take]; omega
  · exact h1
theorem bare_calls (H : ByteArray) (w : World) (h : H.size ≤ 1000000) : Calls Tryz.prog 124 #[.string H, .string ⟨#[48]⟩] w fun e w' => e = .returned (.string ⟨(Lib.trimRightB H.data.toList 48).toArray⟩) ∧ w' = w :=
  Tryz.strings_TrimRight_one H 48 (by decide) w (by omega)
theorem bare_calls2 (H : ByteArray) (w : World) (h : H.size ≤ 1000000) : Calls Tryz.prog 123 #[.string ⟨(Lib.trimRightB H.data.toList 48).toArray⟩, .string ⟨#[46]⟩] w fun e w' => e = .returned (.string (bareS H)) ∧ w' = w := by
  have h1 : (Lib.trimRightB H.data.toList 48).length ≤ H.data.toList.length := by
    unfold Lib.trimRightB
    rw [List.length_reverse]
    exact Nat.le_trans (List.dropWhile_sublist _).length_le (by simp)
  exact Tryz.strings_TrimSuffix ⟨(Lib.trimRightB H.data.toList 48).toArray⟩ ⟨#[46]⟩ w (by rw [sz_list]; rw [sz_list] at h; show (Lib.trimRightB H.data.toList 48).length ≤ _; omega)

set_option maxHeartbeats 8000000 in
set_option maxRecDepth 1000000 in
theorem general_any (b p : Nat) (alt : Bool) (w : World) (hb : b < 18446744073709551616) (hf : fin b = true) (hp : p ≤ 190) (hT : PowOk w) :
    Calls Tryz.prog 84 #[.float .f64 b, .int .i64 ((p : Int) + 1), .bool alt] w fun e w' => e = .returned (.string (genO b p alt)) ∧ (genO b p alt).size ≤ 3000 ∧ Below w.heap.size w w' := by
  have HS := Lib.hid (fun W => Sci_det b p W hb hf (by omega))
  have HT := Lib.hid hT
  have HSc := Lib.hid (fun W h => sci_any b p true W hb hf (by omega) h)
  have HFx := Lib.hid (fun q W h => Fixed_det b q W hb hf h)
  have hM : max ((p : Int) + 1) 1 = (p : Int) + 1 := by omega
  have HO : Hid (genO b p alt = (if alt then genH b p else bareS (genH b p)) ++ genT b p) := rfl
  have HH : Hid (genH b p = if genB b p then (genX b p).extract 0 (genI b p) else if 0 ≤ Lib.indexByte (genF b p).data.toList 46 then genF b p else genF b p ++ ⟨#[46]⟩) := rfl
  have HTl : Hid (genT b p = if genB b p then (genX b p).extract (genI b p) (genX b p).size else ⟨#[]⟩) := rfl
  have HBb : Hid (genB b p = (decide (sciE b p < -4) || decide ((p : Int) + 1 ≤ sciE b p))) := rfl
  have HI : Hid (genI b p = (Lib.indexByte (genX b p).data.toList 101).toNat) := rfl
  have HF : Hid (genF b p = ⟨(fixT b ((p : Int) - sciE b p).toNat).toArray⟩) := rfl
  rw [show sciO b p true = genX b p from rfl] at HSc
  have hpI : (p : Int) ≤ 190 := by omega
  clear hT
  go_enter Tryz.func84, Tryz.ntmps84
  go_wp2_with fail
  refine (HS.out _).mono ?_
  rintro e w1 ⟨rfl, hok, hb1⟩
  have HB1 := Lib.hid hb1
  have HT1 := Lib.hid (HT.out.below hb1)
  have hz1 := hb1.size
  have h1 := hok.lo
  have h2 := hok.hi
  have HFact := Lib.hid (sciO_facts (alt := true) hok (by omega))
  rw [show sciO b p true = genX b p from rfl] at HFact
  have HOk := Lib.hid hok
  clear hok hb1 HS
  -- CASES
  by_cases hA1 : sciE b p < -4
  · have e4 : decide (sciE b p < -4) = true := by simp; omega
    have HBt : Hid (genB b p = true) := by show _ = _; rw [HBb.out]; simp; omega
    have HHe : Hid (genH b p = (genX b p).extract 0 (genI b p)) := by show _ = _; rw [HH.out, HBt.out]; rfl
    have HTe : Hid (genT b p = (genX b p).extract (genI b p) (genX b p).size) := by show _ = _; rw [HTl.out, HBt.out]; rfl
    obtain ⟨o, ho, hol⟩ := ix_of_mem HFact.out.2
    rw [← sz_list] at hol
    have hXs := HFact.out.1
    have hIo : genI b p = o := by rw [HI.out, ho]; rfl
    rw [hIo] at HHe HTe
    have HIx : Hid (∀ W, Calls Tryz.prog 45 #[.string (genX b p), .int .u8 101] W fun e w' => e = .returned (.int .i64 (o : Int)) ∧ w' = W) := fun W => ho ▸ Tryz.strings_IndexByte (genX b p) 101 W
    generalize genX b p = X at *
    obtain ⟨H, hH⟩ : ∃ H : ByteArray, X.extract 0 o = H := ⟨_, rfl⟩
    obtain ⟨T, hTT⟩ : ∃ T : ByteArray, X.extract o X.size = T := ⟨_, rfl⟩
    have hHs : H.size ≤ 1000 := by rw [← hH]; simp; omega
    have hTs : T.size ≤ 1000 := by rw [← hTT]; simp; omega
    rw [hH] at HHe
    rw [hTT] at HTe
    rw [HHe.out, HTe.out] at HO
    have ho1 : (o : Int) ≤ (X.size : Int) := by omega
    clear HHe HTe HH HTl HBb HBt HI HF HFx HFact hIo ho hol HOk
    generalize sciE b p = E at *
    go_wp2_with fail
    refine (HSc.out _ HT1.out).mono ?_
    rintro e w2 ⟨rfl, hb2⟩
    have HB2 := Lib.hid (HB1.out.trans (hb2.mono hz1))
    clear hb2 HSc
    go_wp2_with fail
    refine (HIx.out _).mono ?_
    rintro e _ ⟨rfl, rfl⟩
    go_wp2_with fail
    go_region
    cases alt
    · all_goals go_wp2_with fail
      refine (bare_calls H _ (by omega)).mono ?_
      rintro e _ ⟨rfl, rfl⟩
      go_wp2_with fail
      refine (bare_calls2 H _ (by omega)).mono ?_
      rintro e _ ⟨rfl, rfl⟩
      have hbs := bareS_size H
      generalize bareS H = Z at *
      have hZ : Z.size ≤ 1000 := by omega
      clear hbs
      go_wp2_with fail
      go_ret
      rw [HO.out]
      exact ⟨rfl, by show (Z ++ T).size ≤ 3000; rw [ByteArray.size_append]; omega, HB2.out.drew⟩
    · all_goals go_wp2_with fail
      go_ret
      rw [HO.out]
      exact ⟨rfl, by show (H ++ T).size ≤ 3000; rw [ByteArray.size_append]; omega, HB2.out.drew⟩
  · by_cases hA2 : (p : Int) + 1 ≤ sciE b p
    · have e4 : decide (sciE b p < -4) = false := by simp; omega
      have e5 : decide ((p : Int) + 1 ≤ sciE b p) = true := by simp; omega
      have HBt : Hid (genB b p = true) := by show _ = _; rw [HBb.out]; simp; omega
      have HHe : Hid (genH b p = (genX b p).extract 0 (genI b p)) := by show _ = _; rw [HH.out, HBt.out]; rfl
      have HTe : Hid (genT b p = (genX b p).extract (genI b p) (genX b p).size) := by show _ = _; rw [HTl.out, HBt.out]; rfl
      obtain ⟨o, ho, hol⟩ := ix_of_mem HFact.out.2
      rw [← sz_list] at hol
      have hXs := HFact.out.1
      have hIo : genI b p = o := by rw [HI.out, ho]; rfl
      rw [hIo] at HHe HTe
      have HIx : Hid (∀ W, Calls Tryz.prog 45 #[.string (genX b p), .int .u8 101] W fun e w' => e = .returned (.int .i64 (o : Int)) ∧ w' = W) := fun W => ho ▸ Tryz.strings_IndexByte (genX b p) 101 W
      generalize genX b p = X at *
      obtain ⟨H, hH⟩ : ∃ H : ByteArray, X.extract 0 o = H := ⟨_, rfl⟩
      obtain ⟨T, hTT⟩ : ∃ T : ByteArray, X.extract o X.size = T := ⟨_, rfl⟩
      have hHs : H.size ≤ 1000 := by rw [← hH]; simp; omega
      have hTs : T.size ≤ 1000 := by rw [← hTT]; simp; omega
      rw [hH] at HHe
      rw [hTT] at HTe
      rw [HHe.out, HTe.out] at HO
      have ho1 : (o : Int) ≤ (X.size : Int) := by omega
      clear HHe HTe HH HTl HBb HBt HI HF HFx HFact hIo ho hol HOk
      generalize sciE b p = E at *
      go_wp2_with fail
      refine (HSc.out _ HT1.out).mono ?_
      rintro e w2 ⟨rfl, hb2⟩
      have HB2 := Lib.hid (HB1.out.trans (hb2.mono hz1))
      clear hb2 HSc
      go_wp2_with fail
      refine (HIx.out _).mono ?_
      rintro e _ ⟨rfl, rfl⟩
      go_wp2_with fail
      go_region
      cases alt
      · all_goals go_wp2_with fail
        refine (bare_calls H _ (by omega)).mono ?_
        rintro e _ ⟨rfl, rfl⟩
        go_wp2_with fail
        refine (bare_calls2 H _ (by omega)).mono ?_
        rintro e _ ⟨rfl, rfl⟩
        have hbs := bareS_size H
        generalize bareS H = Z at *
        have hZ : Z.size ≤ 1000 := by omega
        clear hbs
        go_wp2_with fail
        go_ret
        rw [HO.out]
        exact ⟨rfl, by show (Z ++ T).size ≤ 3000; rw [ByteArray.size_append]; omega, HB2.out.drew⟩
      · all_goals go_wp2_with fail
        go_ret
        rw [HO.out]
        exact ⟨rfl, by show (H ++ T).size ≤ 3000; rw [ByteArray.size_append]; omega, HB2.out.drew⟩
    · have h4 : ¬ (sciE b p < -4) := by omega
      have h5 : ¬ ((p : Int) + 1 ≤ sciE b p) := by omega
      have HBt : Hid (genB b p = false) := by show _ = _; rw [HBb.out]; simp; omega
      have HHe : Hid (genH b p = if 0 ≤ Lib.indexByte (genF b p).data.toList 46 then genF b p else genF b p ++ ⟨#[46]⟩) := by show _ = _; rw [HH.out, HBt.out]; rfl
      have HTe : Hid (genT b p = ⟨#[]⟩) := by show _ = _; rw [HTl.out, HBt.out]; rfl
      obtain ⟨q, hq⟩ : ∃ q : Nat, ((p : Int) - sciE b p) = (q : Int) := ⟨((p : Int) - sciE b p).toNat, by omega⟩
      have hq2 : q ≤ 194 := by omega
      have hFq : genF b p = ⟨(fixT b q).toArray⟩ := by rw [HF.out, hq]; rfl
      have hFs : (genF b p).size ≤ 1000 := by
        have hx := HOk.out.fx
        rw [hq] at hx
        have hy := fixedL_len (dl (scaledN b (q : Int))) q
        rw [sz_list, hFq]
        show (fixedL _ _).length ≤ _
        omega
      have HFq := Lib.hid (fun W => HFx.out q W (by omega))
      rw [← hFq] at HFq
      have HCt := Lib.hid (fun W => Tryz.strings_Contains_one (genF b p) 46 W)
      have hq3 : (p : Int) + 1 - 1 - sciE b p = (q : Int) := by omega
      generalize genF b p = F at *
      clear HH HTl HBb HBt HI HF HFx HFact hFq HOk HSc
      rw [HTe.out] at HO
      generalize Lib.indexByte F.data.toList 46 = J at *
      generalize sciE b p = E at *
      have e4 : decide (E < -4) = false := by simp; omega
      have e5 : decide ((p : Int) + 1 ≤ E) = false := by simp; omega
      clear h4 h5
      go_wp2_with fail
      refine (HFq.out _).mono ?_
      rintro e w2 ⟨rfl, hb2⟩
      have HB2 := Lib.hid (HB1.out.trans (hb2.mono hz1))
      clear hb2
      go_wp2_with fail
      refine (HCt.out _).mono ?_
      rintro e _ ⟨rfl, rfl⟩
      rcases Int.lt_or_le J 0 with hJ | hJ
      · have hJ1 : decide (0 ≤ J) = false := by simp; omega
        rw [if_neg (by omega)] at HHe
        clear hJ
        obtain ⟨G, hG⟩ : ∃ G : ByteArray, F ++ ⟨#[46]⟩ = G := ⟨_, rfl⟩
        have hGs : G.size ≤ 1001 := by
          rw [← hG, ByteArray.size_append]
          show F.size + 1 ≤ _
          omega
        rw [hG] at HHe
        rw [HHe.out] at HO
        clear HHe
        cases alt
        · go_wp2_with fail
          refine (bare_calls G _ (by omega)).mono ?_
          rintro e _ ⟨rfl, rfl⟩
          go_wp2_with fail
          refine (bare_calls2 G _ (by omega)).mono ?_
          rintro e _ ⟨rfl, rfl⟩
          have hbs := bareS_size G
          generalize bareS G = Z at *
          have hZ : Z.size ≤ 2000 := by omega
          clear hbs
          go_wp2_with fail
          go_ret
          rw [HO.out]
          exact ⟨rfl, by show (Z ++ ⟨#[]⟩).size ≤ 3000; rw [ByteArray.size_append]; show Z.size + 0 ≤ _; omega, HB2.out⟩
        · go_wp2_with fail
          go_ret
          rw [HO.out]
          exact ⟨rfl, by show (G ++ ⟨#[]⟩).size ≤ 3000; rw [ByteArray.size_append]; show G.size + 0 ≤ _; omega, HB2.out⟩
      · have hJ1 : decide (0 ≤ J) = true := by simp; omega
        rw [if_pos hJ] at HHe
        clear hJ
        rw [HHe.out] at HO
        clear HHe
        cases alt
        · go_wp2_with fail
          refine (bare_calls F _ (by omega)).mono ?_
          rintro e _ ⟨rfl, rfl⟩
          go_wp2_with fail
          refine (bare_calls2 F _ (by omega)).mono ?_
          rintro e _ ⟨rfl, rfl⟩
          have hbs := bareS_size F
          generalize bareS F = Z at *
          have hZ : Z.size ≤ 2000 := by omega
          clear hbs
          go_wp2_with fail
          go_ret
          rw [HO.out]
          exact ⟨rfl, by show (Z ++ ⟨#[]⟩).size ≤ 3000; rw [ByteArray.size_append]; show Z.size + 0 ≤ _; omega, HB2.out⟩
        · go_wp2_with fail
          go_ret
          rw [HO.out]
          exact ⟨rfl, by show (F ++ ⟨#[]⟩).size ≤ 3000; rw [ByteArray.size_append]; show F.size + 0 ≤ _; omega, HB2.out⟩
end Go.Proofs.YtflbhifdololfaaGreatDoor
