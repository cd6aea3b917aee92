/- Package cal: written, of formats whose letters are known. -/
import Derived.Test.YtcipmfjefmjacaaGreatDoorC4
import Derived.Test.YtcipmfjefmjacaaGreatDoorB1
import Derived.StillTailTactics
import Derived.Deep.RegionHeld3
namespace Go.Proofs.YtcipmfjefmjacaaGreatDoor
open Go.RowKit
set_option linter.unusedVariables false

theorem owns_below {B : Nat} {e : TypeId} {k n : Nat} {v : Value} {xs : List Value} {w w' : World} (h : w.ownsRow B e k v n xs) (hb : Below w.heap.size w w') : w'.ownsRow B e k v n xs := by
  refine ⟨h.1, ?_⟩
  rcases h.2 with hn | ⟨g, cap, cur, rfl, hbg, hgg, rest⟩
  · exact .inl hn
  · refine .inr ⟨g, cap, cur, rfl, hbg, ?_, rest⟩
    rw [hb.block g (Array.getElem?_eq_some_iff.1 hgg).1]
    exact hgg
theorem builder_below {T e : TypeId} {B b : Nat} {p : Value} {bs : List Value} {w w' : World} (h : Lib.BuilderAt T e B b p bs w) (hb : Below w.heap.size w w') : Lib.BuilderAt T e B b p bs w' := by
  have hlt := h.lt
  obtain ⟨hB, v, hbk, hown, hne⟩ := h
  exact ⟨hB, v, (hb.block b hlt).trans hbk, owns_below hown hb, hne⟩
theorem isBuilder_below {T e : TypeId} {B b : Nat} {bs : List Value} {w w' : World} (h : Lib.IsBuilder T e B b bs w) (hb : Below w.heap.size w w') : Lib.IsBuilder T e B b bs w' := by
  rcases h with h | h
  · exact .inl (builder_below h hb)
  · exact .inr (builder_below h hb)

/-- a format, written: what a letter writes, and what a letter for several parts -/
def wrG (cv lg : UInt8 → List UInt8) : List UInt8 → List UInt8
  | [] => []
  | [c] => [c]
  | c :: x :: r => if c = 37 then (if longL x = [] then cv x ++ wrG cv lg r else lg x ++ wrG cv lg r) else c :: wrG cv lg (x :: r)
/-- every letter of a format is known -/
def Known (CV LG : UInt8 → Prop) : List UInt8 → Prop
  | [] => True
  | [_] => True
  | c :: x :: r => if c = 37 then (if longL x = [] then CV x else LG x) ∧ Known CV LG r else Known CV LG (x :: r)

theorem wrG_plain (cv lg : UInt8 → List UInt8) (c : UInt8) (l : List UInt8) (h : c ≠ 37 ∨ l = []) : wrG cv lg (c :: l) = c :: wrG cv lg l := by
  cases l with
  | nil => rfl
  | cons x r =>
    rcases h with h | h
    · rw [wrG, if_neg h]
    · cases h
theorem Known_plain {CV LG : UInt8 → Prop} {c : UInt8} {l : List UInt8} (h : c ≠ 37 ∨ l = []) (hk : Known CV LG (c :: l)) : Known CV LG l := by
  cases l with
  | nil => trivial
  | cons x r =>
    rcases h with h | h
    · rw [Known, if_neg h] at hk; exact hk
    · cases h
theorem empty_bytes {l : List UInt8} : (⟨l.toArray⟩ : ByteArray).toList.isEmpty = l.isEmpty := by rw [ByteArray.toList_eq]

set_option maxRecDepth 100000 in
set_option maxHeartbeats 8000000 in
theorem written_any (cv lg : UInt8 → List UInt8) (fmt : ByteArray) (x0 x1 x2 x3 x4 x5 x6 x7 t : Int) (w : World) (hT : Tabs w) (hs : fmt.size ≤ 1000) (hlen : (wrG cv lg fmt.data.toList).length ≤ 1024)
    (hK : Known (fun x => ∀ W, Tabs W → Calls Tryz.prog 36 #[.int .u8 x.toNat, dateV x0 x1 x2 x3 x4 x5 x6 x7, .int .i64 t] W fun e W' => e = .returned (.tuple #[.string ⟨(cv x).toArray⟩, .bool true]) ∧ Below W.heap.size W W')
      (fun x => ∀ W, Tabs W → Calls Tryz.prog 22 #[.string ⟨(longL x).toArray⟩, dateV x0 x1 x2 x3 x4 x5 x6 x7, .int .i64 t] W fun e W' => e = .returned (.string ⟨(lg x).toArray⟩) ∧ Below W.heap.size W W') fmt.data.toList) :
    Calls Tryz.prog 22 #[.string fmt, dateV x0 x1 x2 x3 x4 x5 x6 x7, .int .i64 t] w fun e w' => e = .returned (.string ⟨(wrG cv lg fmt.data.toList).toArray⟩) ∧ Below w.heap.size w w' := by
  obtain ⟨F, hF⟩ : ∃ F, F = wrG cv lg fmt.data.toList := ⟨_, rfl⟩
  rw [← hF] at hlen ⊢
  have HF := Lib.hid hF
  have HK := Lib.hid hK
  have HT := Lib.hid hT
  have hd : dateV x0 x1 x2 x3 x4 x5 x6 x7 = .agg #[.int .i64 x0, .int .i64 x1, .int .i64 x2, .int .i64 x3, .int .i64 x4, .int .i64 x5, .int .i64 x6, .int .i64 x7] := rfl
  rw [hd]
  clear hF hK hT hd
  go_enter Tryz.func22, Tryz.ntmps22
  go_wp2_with fail
  obtain ⟨CV, hCV⟩ : ∃ CV : UInt8 → Prop, CV = (fun x => ∀ W, Tabs W → Calls Tryz.prog 36 #[.int .u8 x.toNat, dateV x0 x1 x2 x3 x4 x5 x6 x7, .int .i64 t] W fun e W' => e = .returned (.tuple #[.string ⟨(cv x).toArray⟩, .bool true]) ∧ Below W.heap.size W W') := ⟨_, rfl⟩
  obtain ⟨LG, hLG⟩ : ∃ LG : UInt8 → Prop, LG = (fun x => ∀ W, Tabs W → Calls Tryz.prog 22 #[.string ⟨(longL x).toArray⟩, dateV x0 x1 x2 x3 x4 x5 x6 x7, .int .i64 t] W fun e W' => e = .returned (.string ⟨(lg x).toArray⟩) ∧ Below W.heap.size W W') := ⟨_, rfl⟩
  rw [← hCV, ← hLG] at HK
  have HCV := Lib.hid hCV
  have HLG := Lib.hid hLG
  clear hCV hLG
  obtain ⟨cs, hcs⟩ : ∃ cs : Array Value, cs = #[.int .i64 x0, .int .i64 x1, .int .i64 x2, .int .i64 x3, .int .i64 x4, .int .i64 x5, .int .i64 x6, .int .i64 x7] := ⟨_, rfl⟩
  go_loopw [8] (fun iv wr => ∃ (i : Nat) (l : List UInt8), iv = .int .i64 i ∧ i ≤ fmt.size ∧ Hid (Lib.IsBuilder 63 5 (w.heap.size + 1) (w.heap.size + 1) (Lib.byteCells l) wr) ∧ Hid (l ++ wrG cv lg (fmt.data.toList.drop i) = F) ∧ Hid (Known CV LG (fmt.data.toList.drop i)) ∧ Hid (Below w.heap.size w wr) ∧ Hid (∀ k v, cs[k]? = some v → wr.cell? ⟨w.heap.size, k, none⟩ = some v) ∧ w.heap.size + 2 ≤ wr.heap.size) (fun iv _ => fmt.size - (intOf iv).toNat)
  case atStart =>
    refine ⟨0, [], rfl, Nat.zero_le _, ?_, ?_, ?_, ?_, ?_, by simp⟩
    · show Lib.IsBuilder _ _ _ _ _ _
      refine .inl ⟨Nat.le_refl _, .slice none 0 0, ?_, World.ownsRow_nil .., by simp [Value.ownBlock]⟩
      have h := heap_alloc_new (w.alloc (.cells #[.int .i64 x0, .int .i64 x1, .int .i64 x2, .int .i64 x3, .int .i64 x4, .int .i64 x5, .int .i64 x6, .int .i64 x7] 23)) (.cells #[.pointer none, .slice none 0 0] 63)
      rw [World.size_alloc] at h
      exact h
    · show _ = _
      rw [List.nil_append, List.drop_zero]; exact HF.out.symm
    · show Known _ _ _
      rw [List.drop_zero]; exact HK.out
    · show Below _ _ _
      exact ((Below.refl _ _).alloc (Nat.le_refl _) _).alloc (by simp) _
    · show ∀ _ _, _
      intro k v hv
      rw [hcs] at hv
      rw [World.cell?_alloc_old _ _ _ (by simp), World.cell?_alloc_new]
      simpa using hv
  case round =>
    obtain ⟨i, l, rfl, hi, HBu, HE, HKn, HBe, HBx, hsz⟩ := hrel
    have HT2 := Lib.hid (HT.out.below HBe.out)
    have hll : l.length ≤ 1024 := by
      have := congrArg List.length HE.out
      rw [List.length_append] at this
      omega
    rcases Nat.lt_or_ge i fmt.size with hlt | hge
    · have hll2 : fmt.data.toList.length = fmt.size := (size_list fmt).symm
      have hd : fmt.data.toList.drop i = fmt.data.toList[i]'(by omega) :: fmt.data.toList.drop (i + 1) := List.drop_eq_getElem_cons (by omega)
      have hc : fmt[i] = fmt.data.toList[i]'(by omega) := by
        apply at_list
        rw [List.getElem?_eq_getElem]
      rw [hd, ← hc] at HE HKn
      generalize hC : fmt[i] = c at *
      have hltI : (i : Int) < (fmt.size : Int) := by omega
      have hsI : (fmt.size : Int) ≤ 1000 := by omega
      have hcl : c.toNat < 256 := c.toNat_lt
      clear hd hc
      by_cases h37 : c = 37
      · rcases hr : fmt.data.toList.drop (i + 1) with _ | ⟨x, r⟩
        · have hlast : (i : Int) + 1 = (fmt.size : Int) := by
            have h := congrArg List.length hr
            rw [List.length_drop, List.length_nil] at h
            omega
          have h1 : (c.toNat : Int) = 37 := by rw [h37]; rfl
          have hb1 : ((i : Int) + 1 == (fmt.size : Int)) = true := beq_iff_eq.2 hlast
          have HR := Lib.hid hr
          have H37 := Lib.hid h37
          clear hll2 hlast h37 hr
          have HW := Lib.hid (WriteByte_any (w.heap.size + 1) (w.heap.size + 1) (Lib.byteCells l) 37 wr HBu.out (by rw [Lib.byteCells_length]; omega) (by omega))
          have HE2 : Hid ((l ++ [c]) ++ wrG cv lg (fmt.data.toList.drop (i + 1)) = F) := by
            show _ = _
            have h := HE.out
            rw [wrG_plain cv lg c _ (.inr HR.out)] at h
            rw [← h]; simp
          have HK2 : Hid (Known CV LG (fmt.data.toList.drop (i + 1))) := Known_plain (.inr HR.out) HKn.out
          have hl1 : l.length + 1 ≤ 1024 := by
            have := congrArg List.length HE2.out
            simp only [List.length_append, List.length_singleton] at this
            omega
          clear HE HKn HBu
          go_wp2_with fail
          refine HW.out.mono ?_
          rintro e w3 ⟨rfl, hbu, hb3⟩
          have hs3 := hb3.size
          have HU : Hid (Lib.IsBuilder 63 5 (w.heap.size + 1) (w.heap.size + 1) (Lib.byteCells (l ++ [c])) w3) := by
            show Lib.IsBuilder _ _ _ _ _ _
            rw [Lib.byteCells_append, H37.out]
            exact .inr hbu
          have HB3 := Lib.hid (HBe.out.trans (hb3.mono (Nat.le_succ _)))
          have HX3 : Hid (∀ k v, cs[k]? = some v → w3.cell? ⟨w.heap.size, k, none⟩ = some v) := by
            show ∀ _ _, _
            intro k v hv
            rw [hb3.cell (p := ⟨w.heap.size, k, none⟩) (Nat.lt_succ_self _)]
            exact HBx.out k v hv
          have hz3 : w.heap.size + 2 ≤ w3.heap.size := by
            have h5 := hbu.lt
            omega
          clear hbu hb3 HBx HW HBe
          go_wp2_with fail
          go_roundw
          case rel => exact ⟨i + 1, l ++ [c], rfl, hlt, HU, HE2, HK2, HB3, HX3, hz3⟩
          case measure => simp only [intOf]; omega
        · have hr2 : i + 1 < fmt.size := by
            have h := congrArg List.length hr
            rw [List.length_drop, List.length_cons] at h
            omega
          have hx : fmt[i + 1] = x := by
            apply at_list
            have h := congrArg (fun l => l[0]?) hr
            simpa [List.getElem?_drop] using h
          have hrd : fmt.data.toList.drop (i + 2) = r := by
            have h := congrArg List.tail hr
            rw [List.tail_drop] at h
            exact h
          have h1 : (c.toNat : Int) = 37 := by rw [h37]; rfl
          have hne : ((i : Int) + 1 == (fmt.size : Int)) = false := beq_eq_false_iff_ne.2 (by omega)
          rw [hr] at HE HKn
          have hE2 : l ++ (if longL x = [] then cv x ++ wrG cv lg r else lg x ++ wrG cv lg r) = F := by
            have h := HE.out
            rw [h37, wrG, if_pos rfl] at h
            exact h
          have hK2 : (if longL x = [] then CV x else LG x) ∧ Known CV LG r := by
            have h := HKn.out
            rw [h37, Known, if_pos rfl] at h
            exact h
          obtain ⟨hKx, hKr⟩ := hK2
          rw [← hrd] at hE2 hKr
          have HKr := Lib.hid hKr
          have HL := Lib.hid (fun W => long_any x W)
          obtain ⟨s9, hs9⟩ : ∃ s9 : ByteArray, s9 = ⟨(longL x).toArray⟩ := ⟨_, rfl⟩
          rw [← hs9] at HL
          have b0 : wr.cell? ⟨w.heap.size, 0, none⟩ = some (.int .i64 x0) := HBx.out 0 _ (by rw [hcs]; rfl)
          have b1 : wr.cell? ⟨w.heap.size, 1, none⟩ = some (.int .i64 x1) := HBx.out 1 _ (by rw [hcs]; rfl)
          have b2 : wr.cell? ⟨w.heap.size, 2, none⟩ = some (.int .i64 x2) := HBx.out 2 _ (by rw [hcs]; rfl)
          have b3 : wr.cell? ⟨w.heap.size, 3, none⟩ = some (.int .i64 x3) := HBx.out 3 _ (by rw [hcs]; rfl)
          have b4 : wr.cell? ⟨w.heap.size, 4, none⟩ = some (.int .i64 x4) := HBx.out 4 _ (by rw [hcs]; rfl)
          have b5 : wr.cell? ⟨w.heap.size, 5, none⟩ = some (.int .i64 x5) := HBx.out 5 _ (by rw [hcs]; rfl)
          have b6 : wr.cell? ⟨w.heap.size, 6, none⟩ = some (.int .i64 x6) := HBx.out 6 _ (by rw [hcs]; rfl)
          have b7 : wr.cell? ⟨w.heap.size, 7, none⟩ = some (.int .i64 x7) := HBx.out 7 _ (by rw [hcs]; rfl)
          have hd : dateV x0 x1 x2 x3 x4 x5 x6 x7 = .agg #[.int .i64 x0, .int .i64 x1, .int .i64 x2, .int .i64 x3, .int .i64 x4, .int .i64 x5, .int .i64 x6, .int .i64 x7] := rfl
          have HCS := Lib.hid hcs
          by_cases hlx : longL x = []
          · rw [if_pos hlx] at hE2 hKx
            rw [HCV.out, hd] at hKx
            have HE2 := Lib.hid hE2
            have HC := Lib.hid hKx
            have he : s9.toList.isEmpty = true := by rw [hs9, empty_bytes, hlx]; rfl
            clear hE2 hKx hKr hr hrd hs9 hlx HE HKn hd hcs hll2 h37
            go_wp2_with fail
            refine (HL.out _).mono ?_
            rintro e _ ⟨rfl, rfl⟩
            go_wp2_with fail
            go_region_held3 (fun w' => w'.cell? ⟨w.heap.size, 0, none⟩ = some (.int .i64 x0) ∧ w'.cell? ⟨w.heap.size, 1, none⟩ = some (.int .i64 x1) ∧ w'.cell? ⟨w.heap.size, 2, none⟩ = some (.int .i64 x2) ∧ w'.cell? ⟨w.heap.size, 3, none⟩ = some (.int .i64 x3) ∧ w'.cell? ⟨w.heap.size, 4, none⟩ = some (.int .i64 x4) ∧ w'.cell? ⟨w.heap.size, 5, none⟩ = some (.int .i64 x5) ∧ w'.cell? ⟨w.heap.size, 6, none⟩ = some (.int .i64 x6) ∧ w'.cell? ⟨w.heap.size, 7, none⟩ = some (.int .i64 x7))
              (first | exact ⟨b0, b1, b2, b3, b4, b5, b6, b7⟩ | exact ⟨s0, s1, s2, s3, s4, s5, s6, s7⟩)
              (first | (go_at_call 36; refine (HC.out _ (HT2.out.below (Below.refl _ _).drew)).mono ?_; rintro e w3 ⟨rfl, hb3⟩
                        have s0 : w3.cell? ⟨w.heap.size, 0, none⟩ = some (.int .i64 x0) := (hb3.cell (p := ⟨w.heap.size, 0, none⟩) (by show w.heap.size < wr.heap.size; omega)).trans b0
                        have s1 : w3.cell? ⟨w.heap.size, 1, none⟩ = some (.int .i64 x1) := (hb3.cell (p := ⟨w.heap.size, 1, none⟩) (by show w.heap.size < wr.heap.size; omega)).trans b1
                        have s2 : w3.cell? ⟨w.heap.size, 2, none⟩ = some (.int .i64 x2) := (hb3.cell (p := ⟨w.heap.size, 2, none⟩) (by show w.heap.size < wr.heap.size; omega)).trans b2
                        have s3 : w3.cell? ⟨w.heap.size, 3, none⟩ = some (.int .i64 x3) := (hb3.cell (p := ⟨w.heap.size, 3, none⟩) (by show w.heap.size < wr.heap.size; omega)).trans b3
                        have s4 : w3.cell? ⟨w.heap.size, 4, none⟩ = some (.int .i64 x4) := (hb3.cell (p := ⟨w.heap.size, 4, none⟩) (by show w.heap.size < wr.heap.size; omega)).trans b4
                        have s5 : w3.cell? ⟨w.heap.size, 5, none⟩ = some (.int .i64 x5) := (hb3.cell (p := ⟨w.heap.size, 5, none⟩) (by show w.heap.size < wr.heap.size; omega)).trans b5
                        have s6 : w3.cell? ⟨w.heap.size, 6, none⟩ = some (.int .i64 x6) := (hb3.cell (p := ⟨w.heap.size, 6, none⟩) (by show w.heap.size < wr.heap.size; omega)).trans b6
                        have s7 : w3.cell? ⟨w.heap.size, 7, none⟩ = some (.int .i64 x7) := (hb3.cell (p := ⟨w.heap.size, 7, none⟩) (by show w.heap.size < wr.heap.size; omega)).trans b7))
            have hb3' : Below wr.heap.size wr w3 := ((Below.refl wr.heap.size wr).drew).trans hb3
            clear hb3 s0 s1 s2 s3 s4 s5 s6 s7
            have hb3 := hb3'
            clear hb3'
            obtain ⟨y, hy⟩ : ∃ y, y = cv x := ⟨_, rfl⟩
            rw [← hy] at HE2 ⊢
            clear hy HC
            have HB3 := Lib.hid (HBe.out.trans (hb3.mono (by omega)))
            have hs3 := hb3.size
            have HU3 := Lib.hid (isBuilder_below HBu.out hb3)
            have HX3 : Hid (∀ k v, cs[k]? = some v → w3.cell? ⟨w.heap.size, k, none⟩ = some v) := by
              show ∀ _ _, _
              intro k v hv
              have h3 := hb3.cell (p := ⟨w.heap.size, k, none⟩) (by show w.heap.size < _; omega)
              rw [h3]
              exact HBx.out k v hv
            have hyl : l.length + y.length ≤ 1024 := by
              have := congrArg List.length HE2.out
              simp only [List.length_append] at this
              omega
            obtain ⟨sy, hsy⟩ : ∃ sy : ByteArray, sy = ⟨y.toArray⟩ := ⟨_, rfl⟩
            have hsyz : sy.size = y.length := by rw [size_list, hsy]
            have HWS := Lib.hid (WriteString_any (w.heap.size + 1) (w.heap.size + 1) (Lib.byteCells l) sy w3 HU3.out (by rw [Lib.byteCells_length]; omega) (by omega))
            have HSY : Hid (Lib.byteCells l ++ Lib.strCells sy = Lib.byteCells (l ++ y)) := by
              show _ = _
              rw [hsy, Lib.byteCells_append]; rfl
            rw [← hsy]
            clear hsy hb3 HBu HBe HBx HU3
            go_wp2_with fail
            refine HWS.out.mono ?_
            rintro e w4 ⟨rfl, hbu, hb4⟩
            rw [HSY.out] at hbu
            have HB4 := Lib.hid (HB3.out.trans (hb4.mono (Nat.le_succ _)))
            have hs4 := hb4.size
            have HU4 : Hid (Lib.IsBuilder 63 5 (w.heap.size + 1) (w.heap.size + 1) (Lib.byteCells (l ++ y)) w4) := .inr hbu
            have HX4 : Hid (∀ k v, cs[k]? = some v → w4.cell? ⟨w.heap.size, k, none⟩ = some v) := by
              show ∀ _ _, _
              intro k v hv
              rw [hb4.cell (p := ⟨w.heap.size, k, none⟩) (Nat.lt_succ_self _)]
              exact HX3.out k v hv
            have hz4 : w.heap.size + 2 ≤ w4.heap.size := by
              have h5 := hbu.lt
              omega
            have HLn := Lib.hid (Tryz.Builder_Len (w.heap.size + 1) (w.heap.size + 1) (Lib.byteCells (l ++ y)) w4 HU4.out)
            rw [Lib.byteCells_length, List.length_append] at HLn
            obtain ⟨ln, hln⟩ : ∃ ln, ln = l.length + y.length := ⟨_, rfl⟩
            rw [← hln] at HLn
            have hlnI : (ln : Int) ≤ 1024 := by omega
            clear hbu hb4 HX3 HWS hln HB3 hsyz hyl
            go_wp2_with fail
            refine HLn.out.mono ?_
            rintro e _ ⟨rfl, rfl⟩
            go_wp2_with fail
            go_roundw
            case rel => exact ⟨i + 2, l ++ y, rfl, hr2, HU4, by show _ = _; rw [List.append_assoc]; exact HE2.out, HKr, HB4, HX4, hz4⟩
            case measure => simp only [intOf]; omega
          · rw [if_neg hlx] at hE2 hKx
            rw [HLG.out, hd, ← hs9] at hKx
            have HE2 := Lib.hid hE2
            have HC := Lib.hid hKx
            have he : s9.toList.isEmpty = false := by
              rw [hs9, empty_bytes]
              cases h : longL x with
              | nil => exact absurd h hlx
              | cons _ _ => rfl
            clear hE2 hKx hKr hr hrd hs9 hlx HE HKn hd hcs hll2 h37
            go_wp2_with fail
            refine (HL.out _).mono ?_
            rintro e _ ⟨rfl, rfl⟩
            go_wp2_with fail
            refine (HC.out wr HT2.out).mono ?_
            rintro e w3 ⟨rfl, hb3⟩
            obtain ⟨y, hy⟩ : ∃ y, y = lg x := ⟨_, rfl⟩
            rw [← hy] at HE2 ⊢
            clear hy HC
            have HB3 := Lib.hid (HBe.out.trans (hb3.mono (by omega)))
            have hs3 := hb3.size
            have HU3 := Lib.hid (isBuilder_below HBu.out hb3)
            have HX3 : Hid (∀ k v, cs[k]? = some v → w3.cell? ⟨w.heap.size, k, none⟩ = some v) := by
              show ∀ _ _, _
              intro k v hv
              have h3 := hb3.cell (p := ⟨w.heap.size, k, none⟩) (by show w.heap.size < _; omega)
              rw [h3]
              exact HBx.out k v hv
            have hyl : l.length + y.length ≤ 1024 := by
              have := congrArg List.length HE2.out
              simp only [List.length_append] at this
              omega
            obtain ⟨sy, hsy⟩ : ∃ sy : ByteArray, sy = ⟨y.toArray⟩ := ⟨_, rfl⟩
            have hsyz : sy.size = y.length := by rw [size_list, hsy]
            have HWS := Lib.hid (WriteString_any (w.heap.size + 1) (w.heap.size + 1) (Lib.byteCells l) sy w3 HU3.out (by rw [Lib.byteCells_length]; omega) (by omega))
            have HSY : Hid (Lib.byteCells l ++ Lib.strCells sy = Lib.byteCells (l ++ y)) := by
              show _ = _
              rw [hsy, Lib.byteCells_append]; rfl
            rw [← hsy]
            clear hsy hb3 HBu HBe HBx HU3
            go_wp2_with fail
            refine HWS.out.mono ?_
            rintro e w4 ⟨rfl, hbu, hb4⟩
            rw [HSY.out] at hbu
            have HB4 := Lib.hid (HB3.out.trans (hb4.mono (Nat.le_succ _)))
            have hs4 := hb4.size
            have HU4 : Hid (Lib.IsBuilder 63 5 (w.heap.size + 1) (w.heap.size + 1) (Lib.byteCells (l ++ y)) w4) := .inr hbu
            have HX4 : Hid (∀ k v, cs[k]? = some v → w4.cell? ⟨w.heap.size, k, none⟩ = some v) := by
              show ∀ _ _, _
              intro k v hv
              rw [hb4.cell (p := ⟨w.heap.size, k, none⟩) (Nat.lt_succ_self _)]
              exact HX3.out k v hv
            have hz4 : w.heap.size + 2 ≤ w4.heap.size := by
              have h5 := hbu.lt
              omega
            have HLn := Lib.hid (Tryz.Builder_Len (w.heap.size + 1) (w.heap.size + 1) (Lib.byteCells (l ++ y)) w4 HU4.out)
            rw [Lib.byteCells_length, List.length_append] at HLn
            obtain ⟨ln, hln⟩ : ∃ ln, ln = l.length + y.length := ⟨_, rfl⟩
            rw [← hln] at HLn
            have hlnI : (ln : Int) ≤ 1024 := by omega
            clear hbu hb4 HX3 HWS hln HB3 hsyz hyl
            go_wp2_with fail
            refine HLn.out.mono ?_
            rintro e _ ⟨rfl, rfl⟩
            go_wp2_with fail
            go_roundw
            case rel => exact ⟨i + 2, l ++ y, rfl, hr2, HU4, by show _ = _; rw [List.append_assoc]; exact HE2.out, HKr, HB4, HX4, hz4⟩
            case measure => simp only [intOf]; omega
      · have n1 := ne_lit c 37 37 rfl h37
        clear hll2
        have HW := Lib.hid (WriteByte_any (w.heap.size + 1) (w.heap.size + 1) (Lib.byteCells l) (c.toNat : Int) wr HBu.out (by rw [Lib.byteCells_length]; omega) (by omega))
        have HE2 : Hid ((l ++ [c]) ++ wrG cv lg (fmt.data.toList.drop (i + 1)) = F) := by
          show _ = _
          have h := HE.out
          rw [wrG_plain cv lg c _ (.inl h37)] at h
          rw [← h]; simp
        have HK2 : Hid (Known CV LG (fmt.data.toList.drop (i + 1))) := Known_plain (.inl h37) HKn.out
        have hl1 : l.length + 1 ≤ 1024 := by
          have := congrArg List.length HE2.out
          simp only [List.length_append, List.length_singleton] at this
          omega
        clear HE HKn HBu
        go_wp2_with fail
        refine HW.out.mono ?_
        rintro e w3 ⟨rfl, hbu, hb3⟩
        have hs3 := hb3.size
        have HU : Hid (Lib.IsBuilder 63 5 (w.heap.size + 1) (w.heap.size + 1) (Lib.byteCells (l ++ [c])) w3) := by
          show Lib.IsBuilder _ _ _ _ _ _
          rw [Lib.byteCells_append]
          exact .inr hbu
        have HB3 := Lib.hid (HBe.out.trans (hb3.mono (Nat.le_succ _)))
        have HX3 : Hid (∀ k v, cs[k]? = some v → w3.cell? ⟨w.heap.size, k, none⟩ = some v) := by
          show ∀ _ _, _
          intro k v hv
          rw [hb3.cell (p := ⟨w.heap.size, k, none⟩) (Nat.lt_succ_self _)]
          exact HBx.out k v hv
        have hz3 : w.heap.size + 2 ≤ w3.heap.size := by
          have h5 := hbu.lt
          omega
        clear hbu hb3 HBx HW HBe
        go_wp2_with fail
        go_roundw
        case rel => exact ⟨i + 1, l ++ [c], rfl, hlt, HU, HE2, HK2, HB3, HX3, hz3⟩
        case measure => simp only [intOf]; omega
    · have hnil : fmt.data.toList.drop i = [] := List.drop_eq_nil_of_le (by rw [← size_list]; exact hge)
      have hlF : l = F := by
        have h := HE.out
        rw [hnil] at h
        simpa [wrG] using h
      have HS := Lib.hid (Tryz.Builder_String_any (w.heap.size + 1) (w.heap.size + 1) l wr HBu.out (by omega))
      have hge2 : (fmt.size : Int) ≤ (i : Int) := by omega
      subst hlF
      clear hcs hnil HBu HE HKn HBx HK HF
      go_wp2_with fail
      refine HS.out.mono ?_
      rintro e w3 ⟨rfl, hb3⟩
      have HB3 := Lib.hid (HBe.out.trans (hb3.mono (Nat.le_succ _)))
      clear hb3
      go_wp2_with fail
      go_ret
      exact ⟨rfl, HB3.out⟩
end Go.Proofs.YtcipmfjefmjacaaGreatDoor
