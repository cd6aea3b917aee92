/- What a law wants besides of the texts that are merged (first part). -/
import Derived.Test.YtfdnhkjeoeffoaaGreatDoorM11
import Derived.Shelf.Strings.Builder1
import Derived.Shelf.Strings.Builder2
import Derived.Shelf.Strings.OnBuilder
import Derived.Shelf.Strings.Trim
import Derived.Shelf.Small.Utf8
import Derived.Shelf.Small.Bits
import Derived.Shelf.Small.Strs
import Derived.Shelf.Small.Wraps
import Derived.Shelf.Strings.BuilderF
import Derived.Shelf.Strings.BuilderK
import Derived.Shelf.Strings.BuilderRune
import Derived.Shelf.Utf8.AppendRune
import Derived.Shelf.Utf8.AppendRunePlain
import Derived.Shelf.Strings.Builder2Cap
import Derived.Shelf.Strconv.Atoi
import Derived.Shelf.Strconv.Itoa0
import Derived.Shelf.Strconv.Itoa1
import Derived.Shelf.LaysM
import Derived.Shelf.Strconv.Itoa2
import Derived.Shelf.Strconv.Itoa3
import Derived.Shelf.Strconv.AtoiErrFast
import Derived.Shelf.Strconv.ParseIntEmpty
import Derived.Shelf.Strconv.AtoiFail
import Derived.Shelf.Strconv.Clone
import Derived.Shelf.Strconv.SyntaxError
import Derived.Shelf.LaysC
import Derived.Shelf.Strconv.ToError
import Derived.Shelf.Strconv.AtoiErr
import Derived.Shelf.Strconv.ErrVar
import Derived.Shelf.Strconv.Lower
import Derived.Shelf.Strconv.ParseUint10
import Derived.Shelf.Strconv.ParseUint10Empty
import Derived.Shelf.Strconv.ParseUint10Any
import Derived.Shelf.Strconv.ParseInt10
import Derived.Shelf.Strconv.AtoiLong
import Derived.Shelf.Strconv.AtoiInnerAll
import Derived.Shelf.Strconv.RangeError
import Derived.Shelf.Strconv.ToErrorRange
import Derived.Shelf.Strconv.AtoiAll
import Derived.Shelf.Strconv.ErrVarAll
import Derived.Shelf.Strconv.ParseUintEmpty
import Derived.Shelf.Strconv.ParseUint10b64
import Derived.Shelf.Strconv.ParseUint10b32
import Derived.Shelf.Strconv.ParseUint10b16
import Derived.Shelf.Strconv.ParseUint10b8
import Derived.Shelf.Strconv.ParseUint10At
import Derived.Shelf.Strconv.ParseInt10At64
import Derived.Shelf.Strconv.ParseInt10At32
import Derived.Shelf.Strconv.ParseInt10At16
import Derived.Shelf.Strconv.ParseInt10At8
import Derived.Shelf.Strconv.ParseInt10All
import Derived.Shelf.Strings.Search1
import Derived.Shelf.Strings.Search2
import Derived.Shelf.Strings.Search3
import Derived.Shelf.Strings.Shaped
import Derived.Shelf.Strings.Prefix
import Derived.Shelf.Unicode.Latin
import Derived.Shelf.Unicode.Decode
import Derived.Shelf.Strings.Runes
import Derived.Shelf.Strings.AsciiSet
import Derived.Shelf.Bits.Mul64
import Derived.Shelf.Strings.Repeat
import Derived.Shelf.Unicode.DecodeSlow
import Derived.Shelf.Unicode.DecodeAny
import Derived.Shelf.Unicode.DecodeLast
import Derived.Shelf.Unicode.CaseLookup
import Derived.Shelf.Unicode.CaseConvert
import Derived.Shelf.Unicode.CaseTo
import Derived.Shelf.Unicode.CaseLaid
import Derived.Shelf.Strings.MapAny
import Derived.Shelf.Strings.CaseAny
import Derived.Shelf.Strings.BuilderCap
import Derived.Shelf.Strings.MapGrows
import Derived.Ground.Names2Prog
import Derived.Shelf.Slices.SearchI
import Derived.Ground.SlgnProg
import Derived.Shelf.SlicesE.Clone
import Derived.Test.YtfdnhkjeoeffoaaGreatDoorProg
import Derived.Test.YtfdnhkjeoeffoaaGreatDoorM4
import Derived.Test.YtfdnhkjeoeffoaaGreatDoorM6
import Derived.Test.YtfdnhkjeoeffoaaGreatDoorM7
import Derived.Test.YtfdnhkjeoeffoaaGreatDoorM3
import Derived.Test.YtfdnhkjeoeffoaaGreatDoorM5
import Derived.Test.YtfdnhkjeoeffoaaGreatDoorM8
import Derived.Test.YtfdnhkjeoeffoaaGreatDoorM10
set_option linter.unusedVariables false
set_option linter.unusedSimpArgs false
section
namespace Go.Proofs
open Go.Shelf
def Tryz.lays158_ren : Go.Shelf.Ren := ⟨fun | 158 => 130 | 165 => 185 | 166 => 88 | 167 => 141 | 169 => 91 | 230 => 193 | 203 => 194 | 240 => 139 | 241 => 237 | 197 => 225 | 118 => 246 | 168 => 247 | 270 => 248 | 262 => 249 | 276 => 206 | 277 => 271 | 260 => 267 | 242 => 278 | 313 => 279 | 278 => 294 | 274 => 295 | 275 => 296 | n => n, fun | 9 => 9 | 4 => 4 | 3 => 3 | 5 => 5 | 72 => 122 | 0 => 0 | 76 => 127 | 75 => 126 | 107 => 249 | 70 => 120 | 20 => 20 | 37 => 64 | 127 => 193 | 21 => 21 | 105 => 274 | 164 => 255 | 162 => 316 | 203 => 314 | 119 => 324 | 46 => 89 | 139 => 327 | 138 => 326 | 51 => 227 | 160 => 335 | 208 => 351 | 206 => 349 | 80 => 131 | n => n, fun | 13 => 3 | 3 => 4 | 4 => 5 | n => n⟩
theorem Tryz.lays158 : Go.Proofs.Lays.n158 Tryz.prog Tryz.lays158_ren := {
 mixed := by kernel_rfl
 f118 := Tryz.func246.trans (congrArg some (by kernel_rfl))
 f158 := Tryz.func130.trans (congrArg some (by kernel_rfl))
 f165 := Tryz.func185.trans (congrArg some (by kernel_rfl))
 f166 := Tryz.func88.trans (congrArg some (by kernel_rfl))
 f167 := Tryz.func141.trans (congrArg some (by kernel_rfl))
 f168 := Tryz.func247.trans (congrArg some (by kernel_rfl))
 f169 := Tryz.func91.trans (congrArg some (by kernel_rfl))
 f197 := Tryz.func225.trans (congrArg some (by kernel_rfl))
 f203 := Tryz.func194.trans (congrArg some (by kernel_rfl))
 f230 := Tryz.func193.trans (congrArg some (by kernel_rfl))
 f240 := Tryz.func139.trans (congrArg some (by kernel_rfl))
 f241 := Tryz.func237.trans (congrArg some (by kernel_rfl))
 f242 := Tryz.func278.trans (congrArg some (by kernel_rfl))
 f260 := Tryz.func267.trans (congrArg some (by kernel_rfl))
 f262 := Tryz.func249.trans (congrArg some (by kernel_rfl))
 f270 := Tryz.func248.trans (congrArg some (by kernel_rfl))
 f274 := Tryz.func295.trans (congrArg some (by kernel_rfl))
 f275 := Tryz.func296.trans (congrArg some (by kernel_rfl))
 f276 := Tryz.func206.trans (congrArg some (by kernel_rfl))
 f277 := Tryz.func271.trans (congrArg some (by kernel_rfl))
 f278 := Tryz.func294.trans (congrArg some (by kernel_rfl))
 f313 := Tryz.func279.trans (congrArg some (by kernel_rfl))
 t0 := Tryz.underlying0
 a0 := Tryz.isAgg0
 z0 := Tryz.sizeOf0
 v0 := Tryz.zeroValue0
 t3 := Tryz.underlying3
 a3 := Tryz.isAgg3
 z3 := Tryz.sizeOf3
 v3 := Tryz.zeroValue3
 t4 := Tryz.underlying4
 a4 := Tryz.isAgg4
 z4 := Tryz.sizeOf4
 v4 := Tryz.zeroValue4
 t5 := Tryz.underlying5
 a5 := Tryz.isAgg5
 z5 := Tryz.sizeOf5
 v5 := Tryz.zeroValue5
 t9 := Tryz.underlying9
 a9 := Tryz.isAgg9
 z9 := Tryz.sizeOf9
 v9 := Tryz.zeroValue9
 t20 := Tryz.underlying20
 a20 := Tryz.isAgg20
 z20 := Tryz.sizeOf20
 v20 := Tryz.zeroValue20
 t21 := Tryz.underlying21
 a21 := Tryz.isAgg21
 z21 := Tryz.sizeOf21
 v21 := Tryz.zeroValue21
 t37 := Tryz.underlying64
 a37 := Tryz.isAgg64
 z37 := Tryz.sizeOf64
 v37 := Tryz.zeroValue64
 t46 := Tryz.underlying89
 a46 := Tryz.isAgg89
 z46 := Tryz.sizeOf89
 v46 := Tryz.zeroValue89
 t51 := Tryz.underlying227
 a51 := Tryz.isAgg227
 z51 := Tryz.sizeOf227
 v51 := Tryz.zeroValue227
 t70 := Tryz.underlying120
 a70 := Tryz.isAgg120
 z70 := Tryz.sizeOf120
 v70 := Tryz.zeroValue120
 t72 := Tryz.underlying122
 a72 := Tryz.isAgg122
 z72 := Tryz.sizeOf122
 v72 := Tryz.zeroValue122
 t75 := Tryz.underlying126
 a75 := Tryz.isAgg126
 z75 := Tryz.sizeOf126
 v75 := Tryz.zeroValue126
 t76 := Tryz.underlying127
 a76 := Tryz.isAgg127
 z76 := Tryz.sizeOf127
 v76 := Tryz.zeroValue127
 t105 := Tryz.underlying274
 a105 := Tryz.isAgg274
 z105 := Tryz.sizeOf274
 v105 := Tryz.zeroValue274
 t107 := Tryz.underlying249
 a107 := Tryz.isAgg249
 z107 := Tryz.sizeOf249
 v107 := Tryz.zeroValue249
 t119 := Tryz.underlying324
 a119 := Tryz.isAgg324
 z119 := Tryz.sizeOf324
 t127 := Tryz.underlying193
 a127 := Tryz.isAgg193
 z127 := Tryz.sizeOf193
 v127 := Tryz.zeroValue193
 t138 := Tryz.underlying326
 a138 := Tryz.isAgg326
 z138 := Tryz.sizeOf326
 v138 := Tryz.zeroValue326
 t139 := Tryz.underlying327
 a139 := Tryz.isAgg327
 z139 := Tryz.sizeOf327
 v139 := Tryz.zeroValue327
 t160 := Tryz.underlying335
 a160 := Tryz.isAgg335
 z160 := Tryz.sizeOf335
 v160 := Tryz.zeroValue335
 t162 := Tryz.underlying316
 a162 := Tryz.isAgg316
 z162 := Tryz.sizeOf316
 v162 := Tryz.zeroValue316
 t164 := Tryz.underlying255
 a164 := Tryz.isAgg255
 z164 := Tryz.sizeOf255
 v164 := Tryz.zeroValue255
 t203 := Tryz.underlying314
 a203 := Tryz.isAgg314
 z203 := Tryz.sizeOf314
 v203 := Tryz.zeroValue314
 t206 := Tryz.underlying349
 a206 := Tryz.isAgg349
 z206 := Tryz.sizeOf349
 v206 := Tryz.zeroValue349
 t208 := Tryz.underlying351
 a208 := Tryz.isAgg351
 z208 := Tryz.sizeOf351
 v208 := Tryz.zeroValue351
 g3 := by kernel_rfl
 g4 := by kernel_rfl
 g13 := by kernel_rfl }
theorem Tryz.Builder_Extra_158 : Builder.Extra Tryz.prog Tryz.lays158_ren := {
 sizeBuilder := by kernel_rfl
 liesBuilder := by kernel_rfl
 t5 := Tryz.underlying5
 a5 := Tryz.isAgg5
 z5 := Tryz.sizeOf5
 v5 := Tryz.zeroValue5
 infoByte := by kernel_rfl
 cellsByte := by kernel_rfl
 sizeByte := by kernel_rfl
 neB5 := by decide }
open Go.RowKit in
/-- strings.ToUpper: "ToUpper returns s with all Unicode letters mapped to their upper case.": ON ASCII TEXT OF AT MOST 2^47 BYTES. Below the heap's end the world is as it was: where a letter turns, the call makes a builder and its buffer. (LAID: no walk: one application.) -/
theorem Tryz.strings_ToUpper_ascii (s : ByteArray) (w : World) (hs : s.size ≤ 140737488355328) (hascii : ∀ (j : Nat) (b : UInt8), s.data.toList[j]? = some b → b.toNat < 128) :
 Calls Tryz.prog 130 #[.string s] w fun e w' => e = .returned (.string ⟨(Lib.toUpperA s.data.toList).toArray⟩) ∧ Below w.heap.size w w' := Any.strings_ToUpper_ascii Tryz.lays158 Tryz.Builder_Extra_158 s w hs hascii
end Go.Proofs
end
section
namespace Go.Proofs.YtfdnhkjeoeffoaaGreatDoor
open Go.RowKit
set_option linter.unusedVariables false
theorem bytes_ext {s t : ByteArray} (h : s.data.toList = t.data.toList) : s = t := by
 cases s; cases t
 simp only at h
 rw [Array.toList_inj.1 h]
end Go.Proofs.YtfdnhkjeoeffoaaGreatDoor
end
section
namespace Go.Proofs.YtfdnhkjeoeffoaaGreatDoor
open Go.RowKit
set_option linter.unusedVariables false
set_option maxHeartbeats 8000000 in
set_option maxRecDepth 1000000 in
/-- general at any precision (one at least is taken) -/
theorem general_at (b p : Nat) (pq : Int) (hM : max pq 1 = (p : Int) + 1) (alt : Bool) (w : World) (hb : b < 18446744073709551616) (hf : fin b = true) (hp : p ≤ 190) (hT : PowOk w) :
 Calls Tryz.prog 132 #[.float .f64 b, .int .i64 pq, .bool alt] w fun e w' => e = .returned (.string (genO b p alt)) ∧ (genO b p alt).size ≤ 3000 ∧ Below w.heap.size w w' := by
 have HS := Lib.hid (fun W => Sci_det b p W hb hf (by omega))
 have HT := Lib.hid hT
 have HSc := Lib.hid (fun W h => sci_any b p true W hb hf (by omega) h)
 have HFx := Lib.hid (fun q W h => Fixed_det b q W hb hf h)
 have HO : Hid (genO b p alt = (if alt then genH b p else bareS (genH b p)) ++ genT b p) := rfl
 have HH : Hid (genH b p = if genB b p then (genX b p).extract 0 (genI b p) else if 0 ≤ Lib.indexByte (genF b p).data.toList 46 then genF b p else genF b p ++ ⟨#[46]⟩) := rfl
 have HTl : Hid (genT b p = if genB b p then (genX b p).extract (genI b p) (genX b p).size else ⟨#[]⟩) := rfl
 have HBb : Hid (genB b p = (decide (sciE b p < -4) || decide ((p : Int) + 1 ≤ sciE b p))) := rfl
 have HI : Hid (genI b p = (Lib.indexByte (genX b p).data.toList 101).toNat) := rfl
 have HF : Hid (genF b p = ⟨(fixT b ((p : Int) - sciE b p).toNat).toArray⟩) := rfl
 rw [show sciO b p true = genX b p from rfl] at HSc
 have hpI : (p : Int) ≤ 190 := by omega
 clear hT
 go_enter Tryz.func132, Tryz.ntmps132
 go_wp2_with fail
 refine (HS.out _).mono ?_
 rintro e w1 ⟨rfl, hok, hb1⟩
 have HB1 := Lib.hid hb1
 have HT1 := Lib.hid (HT.out.below hb1)
 have hz1 := hb1.size
 have h1 := hok.lo
 have h2 := hok.hi
 have HFact := Lib.hid (sciO_facts (alt := true) hok (by omega))
 rw [show sciO b p true = genX b p from rfl] at HFact
 have HOk := Lib.hid hok
 clear hok hb1 HS
 -- CASES
 by_cases hA1 : sciE b p < -4
 ·have e4 : decide (sciE b p < -4) = true := by simp; omega
  have HBt : Hid (genB b p = true) := by show _ = _; rw [HBb.out]; simp; omega
  have HHe : Hid (genH b p = (genX b p).extract 0 (genI b p)) := by show _ = _; rw [HH.out, HBt.out]; rfl
  have HTe : Hid (genT b p = (genX b p).extract (genI b p) (genX b p).size) := by show _ = _; rw [HTl.out, HBt.out]; rfl
  obtain ⟨o, ho, hol⟩ := ix_of_mem HFact.out.2
  rw [← sz_list] at hol
  have hXs := HFact.out.1
  have hIo : genI b p = o := by rw [HI.out, ho]; rfl
  rw [hIo] at HHe HTe
  have HIx : Hid (∀ W, Calls Tryz.prog 69 #[.string (genX b p), .int .u8 101] W fun e w' => e = .returned (.int .i64 (o : Int)) ∧ w' = W) := fun W => ho ▸ Tryz.strings_IndexByte (genX b p) 101 W
  generalize genX b p = X at *
  obtain ⟨H, hH⟩ : ∃ H : ByteArray, X.extract 0 o = H := ⟨_, rfl⟩
  obtain ⟨T, hTT⟩ : ∃ T : ByteArray, X.extract o X.size = T := ⟨_, rfl⟩
  have hHs : H.size ≤ 1000 := by rw [← hH]; simp; omega
  have hTs : T.size ≤ 1000 := by rw [← hTT]; simp; omega
  rw [hH] at HHe
  rw [hTT] at HTe
  rw [HHe.out, HTe.out] at HO
  have ho1 : (o : Int) ≤ (X.size : Int) := by omega
  clear HHe HTe HH HTl HBb HBt HI HF HFx HFact hIo ho hol HOk
  generalize sciE b p = E at *
  go_wp2_with fail
  refine (HSc.out _ HT1.out).mono ?_
  rintro e w2 ⟨rfl, hb2⟩
  have HB2 := Lib.hid (HB1.out.trans (hb2.mono hz1))
  clear hb2 HSc
  go_wp2_with fail
  refine (HIx.out _).mono ?_
  rintro e _ ⟨rfl, rfl⟩
  go_wp2_with fail
  go_region
  cases alt
  ·all_goals go_wp2_with fail
   refine (bare_calls H _ (by omega)).mono ?_
   rintro e _ ⟨rfl, rfl⟩
   go_wp2_with fail
   refine (bare_calls2 H _ (by omega)).mono ?_
   rintro e _ ⟨rfl, rfl⟩
   have hbs := bareS_size H
   generalize bareS H = Z at *
   have hZ : Z.size ≤ 1000 := by omega
   clear hbs
   go_wp2_with fail
   go_ret
   rw [HO.out]
   exact ⟨rfl, by show (Z ++ T).size ≤ 3000; rw [ByteArray.size_append]; omega, HB2.out.drew⟩
  ·all_goals go_wp2_with fail
   go_ret
   rw [HO.out]
   exact ⟨rfl, by show (H ++ T).size ≤ 3000; rw [ByteArray.size_append]; omega, HB2.out.drew⟩
 ·by_cases hA2 : (p : Int) + 1 ≤ sciE b p
  ·have e4 : decide (sciE b p < -4) = false := by simp; omega
   have e5 : decide ((p : Int) + 1 ≤ sciE b p) = true := by simp; omega
   have HBt : Hid (genB b p = true) := by show _ = _; rw [HBb.out]; simp; omega
   have HHe : Hid (genH b p = (genX b p).extract 0 (genI b p)) := by show _ = _; rw [HH.out, HBt.out]; rfl
   have HTe : Hid (genT b p = (genX b p).extract (genI b p) (genX b p).size) := by show _ = _; rw [HTl.out, HBt.out]; rfl
   obtain ⟨o, ho, hol⟩ := ix_of_mem HFact.out.2
   rw [← sz_list] at hol
   have hXs := HFact.out.1
   have hIo : genI b p = o := by rw [HI.out, ho]; rfl
   rw [hIo] at HHe HTe
   have HIx : Hid (∀ W, Calls Tryz.prog 69 #[.string (genX b p), .int .u8 101] W fun e w' => e = .returned (.int .i64 (o : Int)) ∧ w' = W) := fun W => ho ▸ Tryz.strings_IndexByte (genX b p) 101 W
   generalize genX b p = X at *
   obtain ⟨H, hH⟩ : ∃ H : ByteArray, X.extract 0 o = H := ⟨_, rfl⟩
   obtain ⟨T, hTT⟩ : ∃ T : ByteArray, X.extract o X.size = T := ⟨_, rfl⟩
   have hHs : H.size ≤ 1000 := by rw [← hH]; simp; omega
   have hTs : T.size ≤ 1000 := by rw [← hTT]; simp; omega
   rw [hH] at HHe
   rw [hTT] at HTe
   rw [HHe.out, HTe.out] at HO
   have ho1 : (o : Int) ≤ (X.size : Int) := by omega
   clear HHe HTe HH HTl HBb HBt HI HF HFx HFact hIo ho hol HOk
   generalize sciE b p = E at *
   go_wp2_with fail
   refine (HSc.out _ HT1.out).mono ?_
   rintro e w2 ⟨rfl, hb2⟩
   have HB2 := Lib.hid (HB1.out.trans (hb2.mono hz1))
   clear hb2 HSc
   go_wp2_with fail
   refine (HIx.out _).mono ?_
   rintro e _ ⟨rfl, rfl⟩
   go_wp2_with fail
   go_region
   cases alt
   ·all_goals go_wp2_with fail
    refine (bare_calls H _ (by omega)).mono ?_
    rintro e _ ⟨rfl, rfl⟩
    go_wp2_with fail
    refine (bare_calls2 H _ (by omega)).mono ?_
    rintro e _ ⟨rfl, rfl⟩
    have hbs := bareS_size H
    generalize bareS H = Z at *
    have hZ : Z.size ≤ 1000 := by omega
    clear hbs
    go_wp2_with fail
    go_ret
    rw [HO.out]
    exact ⟨rfl, by show (Z ++ T).size ≤ 3000; rw [ByteArray.size_append]; omega, HB2.out.drew⟩
   ·all_goals go_wp2_with fail
    go_ret
    rw [HO.out]
    exact ⟨rfl, by show (H ++ T).size ≤ 3000; rw [ByteArray.size_append]; omega, HB2.out.drew⟩
  ·have h4 : ¬ (sciE b p < -4) := by omega
   have h5 : ¬ ((p : Int) + 1 ≤ sciE b p) := by omega
   have HBt : Hid (genB b p = false) := by show _ = _; rw [HBb.out]; simp; omega
   have HHe : Hid (genH b p = if 0 ≤ Lib.indexByte (genF b p).data.toList 46 then genF b p else genF b p ++ ⟨#[46]⟩) := by show _ = _; rw [HH.out, HBt.out]; rfl
   have HTe : Hid (genT b p = ⟨#[]⟩) := by show _ = _; rw [HTl.out, HBt.out]; rfl
   obtain ⟨q, hq⟩ : ∃ q : Nat, ((p : Int) - sciE b p) = (q : Int) := ⟨((p : Int) - sciE b p).toNat, by omega⟩
   have hq2 : q ≤ 194 := by omega
   have hFq : genF b p = ⟨(fixT b q).toArray⟩ := by rw [HF.out, hq]; rfl
   have hFs : (genF b p).size ≤ 1000 := by
    have hx := HOk.out.fx
    rw [hq] at hx
    have hy := fixedL_len (dl (scaledN b (q : Int))) q
    rw [sz_list, hFq]
    show (fixedL _ _).length ≤ _
    omega
   have HFq := Lib.hid (fun W => HFx.out q W (by omega))
   rw [← hFq] at HFq
   have HCt := Lib.hid (fun W => Tryz.strings_Contains_one (genF b p) 46 W)
   have hq3 : (p : Int) + 1 - 1 - sciE b p = (q : Int) := by omega
   generalize genF b p = F at *
   clear HH HTl HBb HBt HI HF HFx HFact hFq HOk HSc
   rw [HTe.out] at HO
   generalize Lib.indexByte F.data.toList 46 = J at *
   generalize sciE b p = E at *
   have e4 : decide (E < -4) = false := by simp; omega
   have e5 : decide ((p : Int) + 1 ≤ E) = false := by simp; omega
   clear h4 h5
   go_wp2_with fail
   refine (HFq.out _).mono ?_
   rintro e w2 ⟨rfl, hb2⟩
   have HB2 := Lib.hid (HB1.out.trans (hb2.mono hz1))
   clear hb2
   go_wp2_with fail
   refine (HCt.out _).mono ?_
   rintro e _ ⟨rfl, rfl⟩
   rcases Int.lt_or_le J 0 with hJ | hJ
   ·have hJ1 : decide (0 ≤ J) = false := by simp; omega
    rw [if_neg (by omega)] at HHe
    clear hJ
    obtain ⟨G, hG⟩ : ∃ G : ByteArray, F ++ ⟨#[46]⟩ = G := ⟨_, rfl⟩
    have hGs : G.size ≤ 1001 := by
     rw [← hG, ByteArray.size_append]
     show F.size + 1 ≤ _
     omega
    rw [hG] at HHe
    rw [HHe.out] at HO
    clear HHe
    cases alt
    ·go_wp2_with fail
     refine (bare_calls G _ (by omega)).mono ?_
     rintro e _ ⟨rfl, rfl⟩
     go_wp2_with fail
     refine (bare_calls2 G _ (by omega)).mono ?_
     rintro e _ ⟨rfl, rfl⟩
     have hbs := bareS_size G
     generalize bareS G = Z at *
     have hZ : Z.size ≤ 2000 := by omega
     clear hbs
     go_wp2_with fail
     go_ret
     rw [HO.out]
     exact ⟨rfl, by show (Z ++ ⟨#[]⟩).size ≤ 3000; rw [ByteArray.size_append]; show Z.size + 0 ≤ _; omega, HB2.out⟩
    ·go_wp2_with fail
     go_ret
     rw [HO.out]
     exact ⟨rfl, by show (G ++ ⟨#[]⟩).size ≤ 3000; rw [ByteArray.size_append]; show G.size + 0 ≤ _; omega, HB2.out⟩
   ·have hJ1 : decide (0 ≤ J) = true := by simp; omega
    rw [if_pos hJ] at HHe
    clear hJ
    rw [HHe.out] at HO
    clear HHe
    cases alt
    ·go_wp2_with fail
     refine (bare_calls F _ (by omega)).mono ?_
     rintro e _ ⟨rfl, rfl⟩
     go_wp2_with fail
     refine (bare_calls2 F _ (by omega)).mono ?_
     rintro e _ ⟨rfl, rfl⟩
     have hbs := bareS_size F
     generalize bareS F = Z at *
     have hZ : Z.size ≤ 2000 := by omega
     clear hbs
     go_wp2_with fail
     go_ret
     rw [HO.out]
     exact ⟨rfl, by show (Z ++ ⟨#[]⟩).size ≤ 3000; rw [ByteArray.size_append]; show Z.size + 0 ≤ _; omega, HB2.out⟩
    ·go_wp2_with fail
     go_ret
     rw [HO.out]
     exact ⟨rfl, by show (F ++ ⟨#[]⟩).size ≤ 3000; rw [ByteArray.size_append]; show F.size + 0 ≤ _; omega, HB2.out⟩
end Go.Proofs.YtfdnhkjeoeffoaaGreatDoor
end
section
namespace Go.Proofs.YtfdnhkjeoeffoaaGreatDoor
open Go.RowKit
set_option linter.unusedVariables false
/-- string(b) of no bytes -/
theorem wpList_string_nil (w : World) {ops : Array Oper} {rest : List Oper} {o : Oper} {a : Act} {Q : Exit → Act → World → Prop} (hg : o.guard = none) (x : Operand) (ho : o.op = .convert 64 9 x) (hx : a.eval x = .slice none 0 0)
 (hK : wpList Tryz.prog ops Q rest (a.put o.dst (.string ⟨#[]⟩)) w) : wpList Tryz.prog ops Q (o :: rest) a w := by
 have hr := run_convert_bytes_nil (P := Tryz.prog) (w := w) 64 5 undBytes undByte 0 0 9 undStr
 refine wpList_plain hg fun K' hK' => ?_
 unfold Oper.wp
 simp [execOp, ho, hx, hr, Result.andThen]
 exact hK' _ _ hK
end Go.Proofs.YtfdnhkjeoeffoaaGreatDoor
end
section
namespace Go.Proofs.YtfdnhkjeoeffoaaGreatDoor
open Go.RowKit
set_option linter.unusedVariables false
theorem baseN_lt {B : Nat} (hB : 2 ≤ B) : ∀ (f n : Nat), n ≤ f → ∀ c ∈ baseN B n, c < 256 := by
 intro f
 induction f with
 | zero => intro n h c hc; obtain rfl : n = 0 := by omega
           rw [baseN_zero] at hc; cases hc
 | succ f ih =>
   intro n h c hc
   by_cases h0 : n = 0
   ·subst h0; rw [baseN_zero] at hc; cases hc
   ·have hlt : n / B < n := Nat.div_lt_self (by omega) (by omega)
    rw [baseN_step hB h0] at hc
    rcases List.mem_append.1 hc with hc | hc
    ·exact ih (n / B) (by omega) c hc
    ·rw [List.mem_singleton] at hc
     subst hc
     exact ch_lt _ _
def sliceLen : Value → Nat
 | .slice _ n _ => n
 | _ => 0
def bytesN (L : List Nat) : ByteArray := ⟨(L.map UInt8.ofNat).toArray⟩
section
variable (w : World) {ops : Array Oper} {rest : List Oper} {o : Oper} {a : Act} {Q : Exit → Act → World → Prop}
/-- append of a row -/
theorem wpList_appBs (hg : o.guard = none) (s x : Operand) (ho : o.op = .call { callee := .builtin .append, args := #[s, x], argTypes := #[64, 64] })
 (base : Nat) (v : Value) (L M : List Nat) (hs : a.eval s = v) (hown : OwnB w base v L) (g cap : Nat) (hx : a.eval x = .slice (some ⟨g, 0, none⟩) M.length cap) (hr : RowB w g cap M)
 (hbase : base ≤ w.heap.size) (hlen : L.length + M.length ≤ 1000000000)
 (hK : ∀ v' w', OwnB w' base v' (L ++ M) → w.grownBy w' v.ownBlock → wpList Tryz.prog ops Q rest (a.put o.dst v') w') : wpList Tryz.prog ops Q (o :: rest) a w := by
 obtain ⟨i0, hi, hz0, hz1, hz2⟩ := info_parts infoB
 refine wpList_append_own w hg s x 64 ho base 5 i0 (.int .u8 0) 1 1 undB hi hz0 hz1 hz2 rfl (by decide) v L.length (cellsB L) hs hown.own ⟨g, 0, none⟩ M.length cap (cellsB M) hx (by simp [cellsB_length]) ?_ ?_ ?_ ?_ hbase ?_
 ·intro j u hj
  have hjl : j < M.length := by
   have := (List.getElem?_eq_some_iff.1 hj).1
   simpa [cellsB_length] using this
  have e := hr.cell j hjl
  have h2 : u = .int .u8 (M[j] : Nat) := by
   have h3 : (cellsB M)[j]? = some (.int .u8 (M[j] : Nat)) := by simp [cellsB, List.getElem?_eq_getElem hjl]
   rw [h3] at hj
   exact (Option.some.inj hj).symm
  rw [add_plain', Nat.zero_add, h2]
  exact e
 ·intro u hu
  obtain ⟨n, _, rfl⟩ := List.mem_map.1 hu
  rfl
 ·simp [maxLen]; omega
 ·omega
 ·intro v' w' ho hgr _
  refine hK v' w' ⟨?_, ?_⟩ hgr
  ·intro z hz
   rcases List.mem_append.1 hz with hz | hz
   ·exact hown.lt z hz
   ·exact hr.lt z hz
  ·have e : cellsB (L ++ M) = cellsB L ++ cellsB M := by simp [cellsB]
   rw [e]; simpa using ho
end
theorem bytesN_toList {L : List Nat} (h : ∀ c ∈ L, c < 256) (j : Nat) (hj : j < (L.map UInt8.ofNat).length) : ((L.map UInt8.ofNat)[j].toNat) = L[j]'(by simpa using hj) := by
 have hm := h _ (List.getElem_mem (by simpa using hj : j < L.length))
 simp only [List.getElem_map, UInt8.toNat_ofNat']
 omega
set_option maxHeartbeats 8000000 in
set_option maxRecDepth 1000000 in
theorem inBase_any (s : ByteArray) (n B : Nat) (w : World) (hc : Canon s.data.toList n) (hl : s.data.toList.length ≤ 4001) (hn : nbits n ≤ 4001) (hB : 2 ≤ B) (hB2 : B ≤ 16) :
 Calls Tryz.prog 129 #[.string s, .int .u64 (B : Nat)] w fun e w' => e = .returned (.string (bytesN (baseN B n))) ∧ Below w.heap.size w w' := by
 have hf : (limbs n).length ≤ 256 := limbs_of_bits (Nat.le_trans hn (by decide))
 have hlen : (baseN B n).length ≤ 4001 := baseN_len (B := B) hB (k := 4001) (n := n) ((nbits_le (n := n) (k := 4001)).1 hn)
 have hval := hc.val
 have HP := Lib.hid (Parse_any s w hc.ne hc.dig (by rw [hval]; exact hf) (by omega))
 rw [hval] at HP
 have HFr := Lib.hid (fun W => FromV B (B : Int) rfl (by omega) W)
 have hlB : (limbs B).length ≤ 256 := limbs_of_bits (Nat.le_trans (nbits_le.2 (show B < 2 ^ 5 by omega)) (by decide))
 have HDv := Lib.hid (fun va vb m W (hx : NatV W va m) (hy : NatV W vb B) (hX : (limbs m).length ≤ 256) => Div_any va vb m B W hx hy hX hlB (by omega))
 have hmono : ∀ m, m ≤ n → (limbs m).length ≤ 256 := fun m hm => Nat.le_trans (limbs_length_le (Nat.lt_of_le_of_lt hm (lt_of_limbs_length hf))) (Nat.le_refl _)
 have HLT := Lib.hid (baseN_lt hB n n (Nat.le_refl _))
 obtain ⟨D, hD⟩ : ∃ D, D = baseN B n := ⟨_, rfl⟩
 rw [← hD] at hlen HLT ⊢
 have HD := Lib.hid hD
 have HMO := Lib.hid hmono
 clear hc hval hD hlB hmono hn hl
 go_enter Tryz.func129, Tryz.ntmps129
 go_wp2_with fail
 refine HP.out.mono ?_
 rintro e w1 ⟨v, rfl, hv, hb⟩
 have HV := Lib.hid hv
 have HB1 := Lib.hid hb
 clear hv hb HP
 go_wp2_with fail
 go_loopw [5, 7] (fun va vo wr => ∃ (m : Nat) (L : List Nat), Hid (NatV wr va m) ∧ Hid (OwnB wr w.heap.size vo L) ∧ Hid (baseN B m ++ L = D) ∧ Hid (Below w.heap.size w wr) ∧ m ≤ n) (fun _ vo _ => D.length - sliceLen vo)
 case atStart => exact ⟨n, [], HV.out, OwnB.nil _ _, by show _ = _; rw [List.append_nil]; exact HD.out.symm, HB1.out, Nat.le_refl _⟩
 case round =>
  obtain ⟨m, L, HN, HO, HE, HB, hm⟩ := hrel
  obtain ⟨a, ca, rfl, hla⟩ := HN.out
  have hgs := HB.out.size
  have hLlen : L.length ≤ 4001 := by
   have h := congrArg List.length HE.out
   rw [List.length_append] at h
   omega
  have hml := HMO.out m hm
  by_cases h0 : m = 0
  ·subst h0
   have HE1 : Hid (L = D) := by
    show _ = _
    rw [← HE.out, baseN_zero]
    rfl
   have hlz : (limbs 0).length = 0 := by rw [limbs_zero]; rfl
   rw [hlz]
   rcases HO.out.slice with ⟨rfl, hnil⟩ | ⟨g, cap, rfl, hbg, hrow⟩
   ·have HR : Hid (bytesN D = ⟨#[]⟩) := by show _ = _; rw [← HE1.out, hnil]; rfl
    clear hla HN HE HO hnil
    go_wp2_with (refine wpList_string_nil _ rfl _ rfl rfl ?_)
    go_ret
    exact ⟨by rw [HR.out]; rfl, HB.out⟩
   ·have hT : ∀ k (hk : k < (L.map UInt8.ofNat).length), wr.cell? ⟨g, k, none⟩ = some (.int .u8 ((L.map UInt8.ofNat)[k].toNat : Nat)) := by
     intro k hk
     rw [bytesN_toList hrow.lt k hk]
     exact hrow.cell k (by simpa using hk)
    have HTT := Lib.hid hT
    have HR : Hid (bytesN D = ⟨(L.map UInt8.ofNat).toArray⟩) := by show _ = _; rw [← HE1.out]; rfl
    have hlen2 : (L.map UInt8.ofNat).length = L.length := by simp
    clear hla HN HE HO hT hrow
    go_wp2_with (refine wpList_string _ rfl _ rfl g cap (L.map UInt8.ofNat) (by rw [hlen2]; rfl) HTT.out ?_)
    go_ret
    exact ⟨by rw [HR.out]; rfl, HB.out⟩
  ·have hml0 : 0 < (limbs m).length := by rw [limbs_pos h0]; simp
   have hI : (0 : Int) < ((limbs m).length : Nat) := by omega
   have HE1 : Hid (baseN B (m / B) ++ (ch hexB (m % B) :: L) = D) := by
    show _ = _
    rw [← HE.out, baseN_step hB h0, List.append_assoc]
    rfl
   have hmB : m % B < 16 := Nat.lt_of_lt_of_le (Nat.mod_lt _ (by omega)) hB2
   have hdm : m / B ≤ n := Nat.le_trans (Nat.div_le_self _ _) hm
   have HMX := Lib.hid hml
   generalize (limbs m).length = lm at *
   have HM2 := Lib.hid (fun W h => HDv.out (.slice a lm ca) h m W)
   clear hla hml h0
   go_wp2_with fail
   refine (HFr.out _).mono ?_
   rintro e w2 ⟨v2, rfl, hv2, hb2⟩
   have HV2 := Lib.hid hv2
   have HO2 := Lib.hid (HO.out.keep hb2 (Nat.le_refl _))
   have HN2 := Lib.hid (HN.out.below hb2)
   have HB2 := Lib.hid (HB.out.trans (hb2.mono hgs))
   clear hv2 hb2 HN HO HB
   go_wp2_with fail
   refine (HM2.out w2 v2 HN2.out HV2.out (HMO.out m hm)).mono ?_
   rintro e w3 ⟨vq, vr, rfl, hq, hr, hb3⟩
   have HO3 := Lib.hid (HO2.out.keep hb3 (Nat.le_refl _))
   have HB3 := Lib.hid (HB2.out.trans (hb3.mono HB2.out.size))
   have HQ := Lib.hid hq
   obtain ⟨aq, cq, rfl, _⟩ := hq
   obtain ⟨ar, cr, rfl, hlr⟩ := hr
   clear hb3 HN2 HV2 HO2 HB2 HM2
   have hgs3 := HB3.out.size
   obtain ⟨d, hd⟩ : ∃ d, d = m % B := ⟨_, rfl⟩
   rw [← hd] at HE1 hlr hmB ⊢
   have hd16 : (d : Int) < 16 := by omega
   have hcc : ∀ h, ((⟨#[48, 49, 50, 51, 52, 53, 54, 55, 56, 57, 97, 98, 99, 100, 101, 102]⟩ : ByteArray)[d]'h).toNat = ch hexB d := fun h => ch_in (s := hexB) h
   have hc256 := ch_lt hexB d
   obtain ⟨c, hce⟩ : ∃ c, c = ch hexB d := ⟨_, rfl⟩
   rw [← hce] at HE1 hcc hc256
   have HDd := Lib.hid hd
   have HCe := Lib.hid hce
   have hROW := rowB_one w3 c hc256
   have HROW := Lib.hid hROW
   clear hROW hd hce
   by_cases hz : d = 0
   ·subst hz
    rw [show (limbs 0).length = 0 from by rw [limbs_zero]; rfl]
    clear hlr
    rcases HO3.out.slice with ⟨rfl, rfl⟩ | ⟨g, cap, rfl, hbg, hrow⟩
    ·go_wp2_with fail
     go_roundw
     case rel => exact ⟨m / B, [c], HQ.out.below ((Below.refl w3.heap.size w3).alloc (Nat.le_refl _) _), HROW.out.own hgs3, HE1, HB3.out.alloc hgs3 _, hdm⟩
     case measure =>
      have := congrArg List.length HE1.out
      simp at this
      simp only [sliceLen]
      omega
    ·have HRR := Lib.hid (hrow.below ((Below.refl w3.heap.size w3).alloc (Nat.le_refl _) (.cells #[.int .u8 (c : Nat)] 5)) hrow.ltg)
     clear hrow
     go_wp2_with (
      at_builtin
      go_loud (refine wpList_appBs _ rfl _ _ rfl w.heap.size _ [c] L rfl (HROW.out.own hgs3) g cap rfl HRR.out (by simp; omega) (by simp; omega) ?_)
      intro v1 w4 hown1 hgr1
      have HO4 := Lib.hid hown1
      have HB4 := Lib.hid ((HB3.out.alloc hgs3 _).grown hgr1 (by simp; omega) (fun x hx => ((HROW.out.own hgs3).own.lt x hx).1))
      have HQ4 := Lib.hid (HQ.out.below (((Below.refl w3.heap.size w3).alloc (Nat.le_refl _) _).grown hgr1 (by simp) (fun x hx => ((HROW.out.own (Nat.le_refl _)).own.lt x hx).1)))
      have HS4 : Hid (sliceLen v1 = L.length + 1) := by
       show _ = _
       rcases hown1.slice with ⟨_, h⟩ | ⟨g', cap', rfl, _, _⟩
       ·cases h
       ·simp [sliceLen]
      clear hown1 hgr1)
     go_wp2_with fail
     go_roundw
     case rel => exact ⟨m / B, c :: L, HQ4.out, HO4.out, HE1, HB4.out, hdm⟩
     case measure =>
      have h1 := congrArg List.length HE1.out
      simp at h1
      rw [HS4.out]
      simp only [sliceLen]
      omega
   ·have hlz : limbs d = [d] := by rw [limbs_pos hz, Nat.mod_eq_of_lt (by unfold B32; omega), Nat.div_eq_of_lt (by unfold B32; omega), limbs_zero]
    rw [hlz] at hlr ⊢
    obtain ⟨br, off, rfl, hcr⟩ := hlr.at_ 0 (by simp)
    have hcr0 : w3.cell? ⟨br, off, none⟩ = some (.int .u32 (d : Nat)) := by simpa using hcr
    clear hlr hcr
    rcases HO3.out.slice with ⟨rfl, rfl⟩ | ⟨g, cap, rfl, hbg, hrow⟩
    ·go_wp2_with fail
     go_roundw
     case rel => exact ⟨m / B, [c], HQ.out.below ((Below.refl w3.heap.size w3).alloc (Nat.le_refl _) _), HROW.out.own hgs3, HE1, HB3.out.alloc hgs3 _, hdm⟩
     case measure =>
      have := congrArg List.length HE1.out
      simp at this
      simp only [sliceLen]
      omega
    ·have HRR := Lib.hid (hrow.below ((Below.refl w3.heap.size w3).alloc (Nat.le_refl _) (.cells #[.int .u8 (c : Nat)] 5)) hrow.ltg)
     clear hrow
     go_wp2_with (
      at_builtin
      go_loud (refine wpList_appBs _ rfl _ _ rfl w.heap.size _ [c] L rfl (HROW.out.own hgs3) g cap rfl HRR.out (by simp; omega) (by simp; omega) ?_)
      intro v1 w4 hown1 hgr1
      have HO4 := Lib.hid hown1
      have HB4 := Lib.hid ((HB3.out.alloc hgs3 _).grown hgr1 (by simp; omega) (fun x hx => ((HROW.out.own hgs3).own.lt x hx).1))
      have HQ4 := Lib.hid (HQ.out.below (((Below.refl w3.heap.size w3).alloc (Nat.le_refl _) _).grown hgr1 (by simp) (fun x hx => ((HROW.out.own (Nat.le_refl _)).own.lt x hx).1)))
      have HS4 : Hid (sliceLen v1 = L.length + 1) := by
       show _ = _
       rcases hown1.slice with ⟨_, h⟩ | ⟨g', cap', rfl, _, _⟩
       ·cases h
       ·simp [sliceLen]
      clear hown1 hgr1)
     go_wp2_with fail
     go_roundw
     case rel => exact ⟨m / B, c :: L, HQ4.out, HO4.out, HE1, HB4.out, hdm⟩
     case measure =>
      have h1 := congrArg List.length HE1.out
      simp at h1
      rw [HS4.out]
      simp only [sliceLen]
      omega
end Go.Proofs.YtfdnhkjeoeffoaaGreatDoor
end
section
namespace Go.Proofs.YtfdnhkjeoeffoaaGreatDoor
open Go.RowKit
theorem ite_skip {c A B : Prop} [Decidable c] (hc : ¬ c) (h : B) : if c then A else B := by
 rw [if_neg hc]
 exact h
end Go.Proofs.YtfdnhkjeoeffoaaGreatDoor
end
section
namespace Go.Proofs.YtfdnhkjeoeffoaaGreatDoor
open Go.RowKit
set_option linter.unusedVariables false
theorem hexB_zero : ((List.range 16).all fun k => (ch hexB k != 48) || (k == 0)) = true := by kernel_rfl
theorem hexB_asc : ((List.range 16).all fun k => decide (ch hexB k < 128)) = true := by kernel_rfl
theorem baseN_ne {B n : Nat} (hB : 2 ≤ B) (h : n ≠ 0) : baseN B n ≠ [] := by
 rw [baseN_step hB h]; simp
theorem baseN_one {B n : Nat} (hB : 2 ≤ B) (hB2 : B ≤ 16) (h : n ≠ 0) : baseN B n ≠ [48] := by
 rw [baseN_step hB h]
 intro h2
 have h3 := congrArg List.length h2
 simp at h3
 rw [h3] at h2
 simp at h2
 have h4 : n / B = 0 := Classical.byContradiction fun hne => baseN_ne hB hne h3
 have h5 : n % B < 16 := Nat.lt_of_lt_of_le (Nat.mod_lt _ (by omega)) hB2
 have h6 := List.all_eq_true.1 hexB_zero (n % B) (List.mem_range.2 h5)
 rw [h2] at h6
 have h7 : n % B = 0 := by simpa using h6
 have h8 := Nat.div_add_mod n B
 rw [h4, h7, Nat.mul_zero] at h8
 omega
theorem baseN_asc {B : Nat} (hB : 2 ≤ B) (hB2 : B ≤ 16) : ∀ (f n : Nat), n ≤ f → ∀ c ∈ baseN B n, c < 128 := by
 intro f
 induction f with
 | zero => intro n h c hc; obtain rfl : n = 0 := by omega
           rw [baseN_zero] at hc; cases hc
 | succ f ih =>
   intro n h c hc
   by_cases h0 : n = 0
   ·subst h0; rw [baseN_zero] at hc; cases hc
   ·have hlt : n / B < n := Nat.div_lt_self (by omega) (by omega)
    rw [baseN_step hB h0] at hc
    rcases List.mem_append.1 hc with hc | hc
    ·exact ih (n / B) (by omega) c hc
    ·rw [List.mem_singleton] at hc
     subst hc
     have h5 : n % B < 16 := Nat.lt_of_lt_of_le (Nat.mod_lt _ (by omega)) hB2
     exact of_decide_eq_true (List.all_eq_true.1 hexB_asc (n % B) (List.mem_range.2 h5))
theorem baseD_asc {B : Nat} (n : Nat) (hB : 2 ≤ B) (hB2 : B ≤ 16) : Asc (baseD B n) := by
 intro c hc
 obtain ⟨k, hk, rfl⟩ := List.mem_map.1 hc
 have := baseN_asc hB hB2 n n (Nat.le_refl _) k hk
 simp; omega
theorem baseD_ne {B n : Nat} (hB : 2 ≤ B) (h : n ≠ 0) : baseD B n ≠ [] := fun h2 => baseN_ne hB h (List.map_eq_nil_iff.1 h2)
theorem baseD_one {B n : Nat} (hB : 2 ≤ B) (hB2 : B ≤ 16) (h : n ≠ 0) : baseD B n ≠ [48] := by
 intro h2
 unfold baseD at h2
 obtain ⟨k, hk⟩ : ∃ k, baseN B n = [k] := by
  have := congrArg List.length h2
  rw [List.length_map] at this
  exact List.length_eq_one_iff.1 this
 have h3 := baseN_lt hB n n (Nat.le_refl _) k (by rw [hk]; simp)
 rw [hk] at h2
 simp at h2
 have h4 : k = 48 := by
  have := congrArg UInt8.toNat h2
  simp at this
  omega
 exact baseN_one hB hB2 h (by rw [hk, h4])
theorem SpAt.all8 {W : World} {B : Nat} {v0 v1 v2 v3 v4 v5 v6 v7 : Value} (h : SpAt W B #[v0, v1, v2, v3, v4, v5, v6, v7]) : W.cell? ⟨B, 0, none⟩ = some v0 ∧ W.cell? ⟨B, 1, none⟩ = some v1 ∧ W.cell? ⟨B, 2, none⟩ = some v2 ∧ W.cell? ⟨B, 3, none⟩ = some v3 ∧ W.cell? ⟨B, 4, none⟩ = some v4 ∧ W.cell? ⟨B, 5, none⟩ = some v5 ∧ W.cell? ⟨B, 6, none⟩ = some v6 ∧ W.cell? ⟨B, 7, none⟩ = some v7 :=
 ⟨h.cell 0, h.cell 1, h.cell 2, h.cell 3, h.cell 4, h.cell 5, h.cell 6, h.cell 7⟩
theorem not_48 {F : ByteArray} (h : F.data.toList ≠ [48]) : (F.toList == [48]) = false := by
 rw [ByteArray.toList_eq]
 exact beq_eq_false_iff_ne.2 h
theorem isEmpty_no {l : List UInt8} (h : ¬ l = []) : l.isEmpty = false := by cases l; exact absurd rfl h; rfl
theorem canon_ne0 {l : List UInt8} {n : Nat} (h : Canon l n) (hn : n ≠ 0) : l ≠ [48] := fun h2 => hn (by rw [← h.val, h2]; decide)
theorem canon_0 {l : List UInt8} (h : Canon l 0) : l = [48] := canon_unique h ⟨by simp, fun c hc => by simp at hc; subst hc; decide, by decide, fun c r e hc => by cases e; rfl⟩
end Go.Proofs.YtfdnhkjeoeffoaaGreatDoor
end
section
namespace Go.Proofs.YtfdnhkjeoeffoaaGreatDoor
open Go.RowKit
set_option linter.unusedVariables false
theorem drop_add {f g : ByteArray} {k m : Nat} (E : f.data.toList.drop k = g.data.toList.drop m) (i : Nat) : f.data.toList.drop (k + i) = g.data.toList.drop (m + i) := by
 have h := congrArg (List.drop i) E
 rwa [List.drop_drop, List.drop_drop] at h
theorem ch_same {f g : ByteArray} {k m : Nat} (E : f.data.toList.drop k = g.data.toList.drop m) (i : Nat) : ch f (k + i) = ch g (m + i) := by
 rw [ch_drop, ch_drop, drop_add E i]
theorem flagN_same {f g : ByteArray} {k m : Nat} (E : f.data.toList.drop k = g.data.toList.drop m) (i : Nat) : flagN f (k + i) = flagN g (m + i) := by unfold flagN; rw [drop_add E i]
theorem hasF_same {f g : ByteArray} {k m : Nat} (E : f.data.toList.drop k = g.data.toList.drop m) (c : UInt8) (i n : Nat) : hasF c f (k + i) n = hasF c g (m + i) n := by unfold hasF; rw [drop_add E i]
theorem figV_same {f g : ByteArray} {k m : Nat} (E : f.data.toList.drop k = g.data.toList.drop m) (i : Nat) : figV f (k + i) = figV g (m + i) := by
 have hd : digN f (k + i) = digN g (m + i) := by unfold digN; rw [drop_add E i]
 unfold figV
 rw [ch_same E i, hd, drop_add E i]
theorem parse_same {f g : ByteArray} {k m : Nat} (E : f.data.toList.drop k = g.data.toList.drop m) : flagN f (k + 1) = flagN g (m + 1) ∧ fw f k = fw g m ∧ fp f k = fp g m ∧ ch f (pv f k) = ch g (pv g m) ∧ okP f k = okP g m ∧ ∃ d, pv f k = k + d ∧ pv g m = m + d := by
 have h1 := flagN_same E 1
 have p1 : pw f k = k + (1 + flagN f (k + 1)) := by unfold pw; omega
 have p2 : pw g m = m + (1 + flagN f (k + 1)) := by unfold pw; rw [h1]; omega
 have h2 : fw f k = fw g m := by unfold fw; rw [p1, p2]; exact figV_same E _
 obtain ⟨d, hd⟩ : ∃ d, d = 1 + flagN f (k + 1) + (fw f k).2.2.2 := ⟨_, rfl⟩
 have p3 : pd f k = k + d := by unfold pd; rw [p1]; omega
 have p4 : pd g m = m + d := by unfold pd; rw [p2, ← h2]; omega
 have h3 : dotP f k = dotP g m := by unfold dotP; rw [p3, p4, ch_same E d, h2]
 have h4 : fp f k = fp g m := by
  unfold fp
  rw [h3, h2, p3, p4, Nat.add_assoc, Nat.add_assoc, figV_same E (d + 1)]
 obtain ⟨e, p5, p6⟩ : ∃ e, pv f k = k + e ∧ pv g m = m + e := by
  unfold pv
  rw [h3, p3, p4, h4]
  split
  ·exact ⟨d + 1 + (fp g m).2.2.2, by omega, by omega⟩
  ·exact ⟨d, rfl, rfl⟩
 have h5 : ch f (pv f k) = ch g (pv g m) := by rw [p5, p6]; exact ch_same E e
 refine ⟨h1, h2, h4, h5, ?_, e, p5, p6⟩
 unfold okP
 rw [h4, h5]
theorem stepF_same {sf : CellT → ByteArray} {by_ : Bool} {f g : ByteArray} {k m : Nat} (E : f.data.toList.drop k = g.data.toList.drop m) (L : List CellT) : stepF sf by_ f k L = stepF sf by_ g m L := by
 obtain ⟨h1, h2, h3, h4, h5, _⟩ := parse_same E
 unfold stepF
 rw [h1, h2, h3, h4, h5, hasF_same E, hasF_same E, hasF_same E, hasF_same E, hasF_same E]
theorem runN_same {f g : ByteArray} {k m : Nat} (E : f.data.toList.drop k = g.data.toList.drop m) : runN f k = runN g m := by
 have h1 := drop_len f k
 have h2 := drop_len g m
 unfold runN
 rw [E] at h1 ⊢
 rw [show f.size - k = g.size - m by omega]
theorem sprS_same {sf : CellT → ByteArray} {by_ : Bool} {f g : ByteArray} : ∀ (n k m : Nat) (out : List UInt8) (L : List CellT), f.size - k ≤ n → f.data.toList.drop k = g.data.toList.drop m → sprS sf by_ f k out L = sprS sf by_ g m out L := by
 intro n
 induction n using Nat.strongRecOn with
 | ind n ih =>
   intro k m out L hn E
   have h1 := drop_len f k
   have h2 := drop_len g m
   rw [E, h2] at h1
   have hr := runN_same E
   by_cases hk : f.size ≤ k
   ·rw [sprS_end hk, sprS_end (by omega)]
   ·by_cases h : k + runN f k < f.size
    ·have E2 := drop_add E (runN f k)
     rw [sprS_part (by omega) h, sprS_part (f := g) (k := m) (by omega) (by omega), ← hr, stepF_same E2 L, E]
     cases stepF sf by_ g (m + runN f k) L with
     | none => rfl
     | some q =>
       obtain ⟨_, _, _, _, _, d, p1, p2⟩ := parse_same E2
       have hp := pv_gt f (k + runN f k)
       simp only []
       rw [p1] at hp ⊢
       rw [p2]
       rw [ih (f.size - (k + runN f k + d + 1)) (by omega) (k + runN f k + d + 1) (m + runN f k + d + 1) _ q.2 (Nat.le_refl _) (by
        have := drop_add E2 (d + 1)
        rwa [← Nat.add_assoc, ← Nat.add_assoc] at this)]
    ·rw [sprS_run (by omega) h, sprS_run (f := g) (k := m) (by omega) (by omega), ← hr, E]
theorem sprS_grow {sf : CellT → ByteArray} {by_ : Bool} {g : ByteArray} : ∀ (n k : Nat) (out : List UInt8) (L : List CellT), g.size - k ≤ n → (sprS sf by_ g k out L).2 = 0 → out.length ≤ (sprS sf by_ g k out L).1.length := by
 intro n
 induction n using Nat.strongRecOn with
 | ind n ih =>
   intro k out L hn h0
   by_cases hk : g.size ≤ k
   ·rw [sprS_end hk]; exact Nat.le_refl _
   ·by_cases h : k + runN g k < g.size
    ·rw [sprS_part (by omega) h] at h0 ⊢
     cases hs : stepF sf by_ g (k + runN g k) L with
     | none => rw [hs] at h0; cases h0
     | some q =>
       rw [hs] at h0
       have hpv := pv_gt g (k + runN g k)
       simp only [] at h0 ⊢
       by_cases h1 : 1024 < (out ++ ((g.data.toList.drop k).take (runN g k) ++ q.1)).length
       ·rw [if_pos h1] at h0; cases h0
       ·rw [if_neg h1] at h0 ⊢
        have h4 := ih (g.size - (pv g (k + runN g k) + 1)) (by omega) (pv g (k + runN g k) + 1) _ q.2 (Nat.le_refl _) h0
        rw [List.length_append] at h4
        omega
    ·rw [sprS_run (by omega) h] at h0 ⊢
     by_cases h1 : 1024 < (out ++ (g.data.toList.drop k).take (runN g k)).length
     ·rw [if_pos h1] at h0; cases h0
     ·rw [if_neg h1, List.length_append]; omega
/-- the answer behind a text that was written -/
theorem sprS_behind {sf : CellT → ByteArray} {by_ : Bool} {g : ByteArray} (p : List UInt8) : ∀ (n k : Nat) (out : List UInt8) (L : List CellT), g.size - k ≤ n → (p ++ out).length ≤ 1024 →
 ((sprS sf by_ g k out L).2 = 0 ∧ out.length ≤ (sprS sf by_ g k out L).1.length ∧ sprS sf by_ g k (p ++ out) L = if 1024 < (p ++ (sprS sf by_ g k out L).1).length then ([], 3) else (p ++ (sprS sf by_ g k out L).1, 0)) ∨
 ((sprS sf by_ g k out L).2 ≠ 0 ∧ (sprS sf by_ g k (p ++ out) L = ([], (sprS sf by_ g k out L).2) ∨ sprS sf by_ g k (p ++ out) L = ([], 3))) := by
 intro n
 induction n using Nat.strongRecOn with
 | ind n ih =>
   intro k out L hn hp
   by_cases hk : g.size ≤ k
   ·rw [sprS_end hk, sprS_end hk]
    exact .inl ⟨rfl, Nat.le_refl _, by show (p ++ out, (0 : Int)) = if 1024 < (p ++ out).length then _ else _; rw [if_neg (by omega)]⟩
   ·by_cases h : k + runN g k < g.size
    ·rw [sprS_part (by omega) h, sprS_part (out := p ++ out) (by omega) h]
     cases stepF sf by_ g (k + runN g k) L with
     | none => exact .inr ⟨show (50 : Int) ≠ 0 by decide, .inl rfl⟩
     | some q =>
       have hpv := pv_gt g (k + runN g k)
       obtain ⟨t, ht⟩ : ∃ t, t = (g.data.toList.drop k).take (runN g k) ++ q.1 := ⟨_, rfl⟩
       simp only []
       rw [← ht, List.append_assoc]
       by_cases h1 : 1024 < (out ++ t).length
       ·rw [if_pos h1, if_pos (by rw [List.length_append]; omega)]
        exact .inr ⟨by decide, .inl rfl⟩
       ·rw [if_neg h1]
        by_cases h2 : 1024 < (p ++ (out ++ t)).length
        ·rw [if_pos h2]
         have h3 := ih (g.size - (pv g (k + runN g k) + 1)) (by omega) (pv g (k + runN g k) + 1) (out ++ t) q.2 (Nat.le_refl _)
         have hgrow : (sprS sf by_ g (pv g (k + runN g k) + 1) (out ++ t) q.2).2 = 0 → (out ++ t).length ≤ (sprS sf by_ g (pv g (k + runN g k) + 1) (out ++ t) q.2).1.length := fun h0 => by
          have h4 := sprS_grow (sf := sf) (by_ := by_) (g := g) (g.size - (pv g (k + runN g k) + 1)) (pv g (k + runN g k) + 1) (out ++ t) q.2 (Nat.le_refl _) h0
          exact h4
         by_cases h0 : (sprS sf by_ g (pv g (k + runN g k) + 1) (out ++ t) q.2).2 = 0
         ·have h4 := hgrow h0
          refine .inl ⟨h0, by rw [List.length_append] at h4; omega, ?_⟩
          rw [List.length_append] at h2
          rw [if_pos (by rw [List.length_append]; omega)]
         ·exact .inr ⟨h0, .inr rfl⟩
        ·rw [if_neg h2]
         rcases ih (g.size - (pv g (k + runN g k) + 1)) (by omega) (pv g (k + runN g k) + 1) (out ++ t) q.2 (Nat.le_refl _) (by omega) with ⟨i1, i2, i3⟩ | ⟨i1, i2⟩
         ·exact .inl ⟨i1, by rw [List.length_append] at i2; omega, i3⟩
         ·exact .inr ⟨i1, i2⟩
    ·rw [sprS_run (by omega) h, sprS_run (out := p ++ out) (by omega) h, List.append_assoc]
     obtain ⟨t, ht⟩ : ∃ t, t = (g.data.toList.drop k).take (runN g k) := ⟨_, rfl⟩
     rw [← ht]
     by_cases h1 : 1024 < (out ++ t).length
     ·rw [if_pos h1, if_pos (by rw [List.length_append]; omega)]
      exact .inr ⟨by decide, .inl rfl⟩
     ·rw [if_neg h1]
      exact .inl ⟨rfl, by simp, rfl⟩
end Go.Proofs.YtfdnhkjeoeffoaaGreatDoor
end
section
namespace Go.Proofs.YtfdnhkjeoeffoaaGreatDoor
open Go.RowKit
set_option linter.unusedVariables false
theorem takeWhile_ext {p : UInt8 → Bool} : ∀ {l : List UInt8} (m : List UInt8), (l.takeWhile p).length < l.length → (l ++ m).takeWhile p = l.takeWhile p := by
 intro l
 induction l with
 | nil => intro m h; simp at h
 | cons a l ih =>
   intro m h
   rw [List.cons_append, List.takeWhile_cons, List.takeWhile_cons]
   rw [List.takeWhile_cons] at h
   cases hp : p a
   ·rfl
   ·rw [hp] at h
    simp only [if_true, List.length_cons] at h ⊢
    rw [ih m (by omega)]
section
variable {f g h : ByteArray} (hh : h.data.toList = f.data.toList ++ g.data.toList)
include hh
theorem join_size : h.size = f.size + g.size := by rw [sz_list, hh, List.length_append, ← sz_list, ← sz_list]
theorem join_drop {k : Nat} (hk : k ≤ f.size) : h.data.toList.drop k = f.data.toList.drop k ++ g.data.toList := by
 rw [hh, List.drop_append_of_le_length (by rw [← sz_list]; exact hk)]
theorem join_ch {i : Nat} (hi : i < f.size) : ch h i = ch f i := by
 unfold ch
 rw [hh, List.getD_eq_getElem?_getD, List.getD_eq_getElem?_getD, List.getElem?_append_left (by rw [← sz_list]; exact hi)]
theorem join_flag {i : Nat} (hi : i + flagN f i < f.size) : flagN h i = flagN f i := by
 unfold flagN at hi ⊢
 rw [join_drop hh (by omega), takeWhile_ext _ (by rw [drop_len]; omega)]
theorem join_has (c : UInt8) {i n : Nat} (hi : i + n ≤ f.size) : hasF c h i n = hasF c f i n := by
 unfold hasF
 rw [join_drop hh (by omega), List.take_append_of_le_length (by rw [drop_len]; omega)]
theorem join_fig {i : Nat} (hi : i + (figV f i).2.2.2 < f.size) : figV h i = figV f i := by
 have hc := join_ch hh (i := i) (by omega)
 unfold figV at hi ⊢
 rw [hc]
 by_cases h1 : ch f i = 42
 ·rw [if_pos h1, if_pos h1]
 ·rw [if_neg h1] at hi
  have hd : i + digN f i < f.size := by
   by_cases h2 : 5 < digN f i
   ·rw [if_pos h2] at hi; exact hi
   ·rw [if_neg h2] at hi; exact hi
  have hdn : digN h i = digN f i := by
   unfold digN at hd ⊢
   rw [join_drop hh (by omega), takeWhile_ext _ (by rw [drop_len]; omega)]
  rw [if_neg h1, if_neg h1, hdn, join_drop hh (by omega), List.take_append_of_le_length (by rw [drop_len]; omega)]
theorem join_parse {k : Nat} (hok : okP f k = true) : flagN h (k + 1) = flagN f (k + 1) ∧ fw h k = fw f k ∧ fp h k = fp f k ∧ pv h k = pv f k ∧ ch h (pv f k) = ch f (pv f k) ∧ okP h k = true ∧ pv f k < f.size ∧ k + 1 + flagN f (k + 1) < f.size := by
 have hpv := pv_in hok
 have hge : pd f k ≤ pv f k := by unfold pv; split <;> omega
 have hge2 : pw f k + (fw f k).2.2.2 = pd f k := rfl
 have h0 : pw f k = k + 1 + flagN f (k + 1) := rfl
 have h1 : flagN h (k + 1) = flagN f (k + 1) := join_flag hh (by omega)
 have p1 : pw h k = pw f k := by unfold pw; rw [h1]
 have h2 : fw h k = fw f k := by
  unfold fw
  rw [p1]
  exact join_fig hh (by have : (figV f (pw f k)).2.2.2 = (fw f k).2.2.2 := rfl; omega)
 have p2 : pd h k = pd f k := by unfold pd; rw [p1, h2]
 have h3 : dotP h k = dotP f k := by unfold dotP; rw [p2, h2, join_ch hh (by omega)]
 have h4 : fp h k = fp f k := by
  cases hd : dotP f k
  ·unfold fp; rw [h3, hd, h2]; rfl
  ·have h5 : pv f k = pd f k + 1 + (fp f k).2.2.2 := by unfold pv; rw [hd]; rfl
   have h6 : fp f k = figV f (pd f k + 1) := by unfold fp; rw [hd]; rfl
   have h7 : fp h k = figV h (pd f k + 1) := by unfold fp; rw [h3, hd, p2]; rfl
   rw [h6] at h5 ⊢
   rw [h7]
   exact join_fig hh (by omega)
 have p3 : pv h k = pv f k := by unfold pv; rw [h3, p2, h4]
 have h8 := join_ch hh hpv
 refine ⟨h1, h2, h4, p3, h8, ?_, hpv, by omega⟩
 unfold okP at hok ⊢
 rw [h4, p3, h8]
 exact hok
theorem join_step {sf : CellT → ByteArray} {by_ : Bool} {k : Nat} (hok : okP f k = true) (L : List CellT) : stepF sf by_ h k L = stepF sf by_ f k L := by
 obtain ⟨h1, h2, h3, h4, h5, h6, h7, h8⟩ := join_parse hh hok
 unfold stepF
 rw [if_pos h6, if_pos hok, h1, h2, h3, h4, h5, join_has hh _ (by omega), join_has hh _ (by omega), join_has hh _ (by omega), join_has hh _ (by omega), join_has hh _ (by omega)]
end
theorem index_app {l : List UInt8} (m : List UInt8) {c : UInt8} (h : 0 ≤ Lib.indexByte l c) : Lib.indexByte (l ++ m) c = Lib.indexByte l c := by
 obtain ⟨o, ho⟩ : ∃ o : Nat, Lib.indexByte l c = (o : Int) := ⟨_, (Int.toNat_of_nonneg h).symm⟩
 obtain ⟨h1, h2⟩ := Lib.indexByte_some ho
 have hol : o < l.length := (List.getElem?_eq_some_iff.1 h1).1
 have e : l = l.take o ++ c :: l.drop (o + 1) := by
  have h3 : l[o] = c := (List.getElem?_eq_some_iff.1 h1).2
  have h4 : l.drop o = c :: l.drop (o + 1) := by rw [List.drop_eq_getElem_cons hol, h3]
  rw [← h4, List.take_append_drop]
 have hn : c ∉ l.take o := fun hm => by
  obtain ⟨i, hi, hx⟩ := List.getElem_of_mem hm
  rw [List.length_take] at hi
  rw [List.getElem_take] at hx
  exact h2 i (by omega) (by rw [List.getElem?_eq_getElem (by omega), hx])
 rw [ho, e, List.append_assoc, List.cons_append, indexByte_at hn, List.length_take]
 omega
theorem runN_le (f : ByteArray) {k : Nat} (hk : k ≤ f.size) : k + runN f k ≤ f.size := by
 unfold runN
 split
 ·omega
 ·have := index_lt (l := f.data.toList.drop k) (c := 37) (by omega)
  rw [drop_len] at this
  omega
theorem runN_sub {f : ByteArray} {k i : Nat} (hk : k ≤ f.size) (hi : i ≤ runN f k) : runN f (k + i) = runN f k - i := by
 have hd := drop_len f k
 rcases split_at (f.data.toList.drop k) with hs | ⟨e, r, E, hs⟩
 ·have h1 := runN_all rfl hs
  have h2 : f.data.toList.drop (k + i) = (f.data.toList.drop k).drop i := by rw [List.drop_drop]
  rw [runN_all h2 (fun hm => hs (List.mem_of_mem_drop hm)), h1, List.length_drop]
 ·have h1 := runN_at E hs
  rw [h1] at hi ⊢
  have h2 : f.data.toList.drop (k + i) = e.drop i ++ 37 :: r := by rw [← List.drop_drop, E, List.drop_append_of_le_length hi]
  rw [runN_at h2 (fun hm => hs (List.mem_of_mem_drop hm)), List.length_drop]
/-- a run may be parted -/
theorem sprS_split {sf : CellT → ByteArray} {by_ : Bool} {h : ByteArray} {k i : Nat} {out : List UInt8} (L : List CellT) (hk : k ≤ h.size) (hi : i ≤ runN h k) (ho : (out ++ (h.data.toList.drop k).take i).length ≤ 1024) :
 sprS sf by_ h k out L = sprS sf by_ h (k + i) (out ++ (h.data.toList.drop k).take i) L := by
 have hle := runN_le h hk
 have hs := runN_sub hk hi
 have hT : (h.data.toList.drop k).take (runN h k) = (h.data.toList.drop k).take i ++ (h.data.toList.drop (k + i)).take (runN h k - i) := by
  conv => lhs; rw [show runN h k = i + (runN h k - i) by omega, List.take_add]
  rw [List.drop_drop]
 by_cases h0 : h.size ≤ k
 ·have hi0 : i = 0 := by omega
  subst hi0
  rw [sprS_end h0, sprS_end (by omega)]
  simp
 ·by_cases hr : k + runN h k < h.size
  ·rw [sprS_part (by omega) hr, sprS_part (k := k + i) (by omega) (by omega), hs, show k + i + (runN h k - i) = k + runN h k by omega, hT]
   simp only [List.append_assoc]
  ·rw [sprS_run (by omega) hr, hT]
   by_cases he : h.size ≤ k + i
   ·have hri : runN h k - i = 0 := by omega
    rw [sprS_end he, hri, List.take_zero, List.append_nil, if_neg (by omega)]
   ·rw [sprS_run (k := k + i) (by omega) (by omega), hs, List.append_assoc]
theorem starsF_more {sw sp m : Bool} {wd pr : Int} {L : List CellT} {m' : Bool} {wd' pr' : Int} {L' : List CellT} (h : starsF sw sp m wd pr L = some (m', wd', pr', L')) : ∃ C, L = C ++ L' ∧ ∀ M, starsF sw sp m wd pr (C ++ M) = some (m', wd', pr', M) := by
 cases sw <;> cases sp
 ·injection h with h
  injection h with h1 h
  injection h with h2 h
  injection h with h3 h4
  subst h1 h2 h3 h4
  exact ⟨[], rfl, fun M => rfl⟩
 ·cases L with
  | nil => cases h
  | cons c L =>
    injection h with h
    injection h with h1 h
    injection h with h2 h
    injection h with h3 h4
    subst h1 h2 h3 h4
    exact ⟨[c], rfl, fun M => rfl⟩
 ·cases L with
  | nil => cases h
  | cons c L =>
    injection h with h
    injection h with h1 h
    injection h with h2 h
    injection h with h3 h4
    subst h1 h2 h3 h4
    exact ⟨[c], rfl, fun M => rfl⟩
 ·cases L with
  | nil => cases h
  | cons c L =>
    cases L with
    | nil => cases h
    | cons d L =>
      injection h with h
      injection h with h1 h
      injection h with h2 h
      injection h with h3 h4
      subst h1 h2 h3 h4
      exact ⟨[c, d], rfl, fun M => rfl⟩
theorem partF_more {sf : CellT → ByteArray} {by_ m p bl al z : Bool} {wd pr : Int} {vb : Nat} {sw sp : Bool} {L : List CellT} {o : List UInt8} {L' : List CellT} (h : partF sf by_ m p bl al z wd pr vb sw sp L = some (o, L')) :
 ∃ C, L = C ++ L' ∧ ∀ M, partF sf by_ m p bl al z wd pr vb sw sp (C ++ M) = some (o, M) := by
 unfold partF at h
 cases hS : starsF sw sp m wd pr L with
 | none => rw [hS] at h; cases h
 | some st =>
   obtain ⟨m', wd', pr', L1⟩ := st
   rw [hS] at h
   simp only [] at h
   obtain ⟨C, rfl, hC⟩ := starsF_more hS
   by_cases h1 : okS wd' pr' vb = false
   ·rw [if_pos h1] at h; cases h
   ·rw [if_neg h1] at h
    by_cases h2 : vb = 37
    ·rw [if_pos h2] at h
     injection h with h; injection h with h3 h4
     subst h3 h4
     refine ⟨C, rfl, fun M => ?_⟩
     unfold partF
     rw [hC M]
     simp only []
     rw [if_neg h1, if_pos h2]
    ·rw [if_neg h2] at h
     cases L1 with
     | nil => cases h
     | cons c L2 =>
       simp only [] at h
       by_cases h3 : (partO sf by_ m' p bl al z wd' pr' vb c).2 = 0
       ·rw [if_pos h3] at h
        injection h with h; injection h with h4 h5
        subst h4 h5
        refine ⟨C ++ [c], by simp, fun M => ?_⟩
        unfold partF
        rw [List.append_assoc, hC]
        simp only [List.singleton_append]
        rw [if_neg h1, if_neg h2, if_pos h3]
       ·rw [if_neg h3] at h; cases h
theorem stepF_more {sf : CellT → ByteArray} {by_ : Bool} {f : ByteArray} {k : Nat} {L : List CellT} {o : List UInt8} {L' : List CellT} (h : stepF sf by_ f k L = some (o, L')) : okP f k = true ∧ ∃ C, L = C ++ L' ∧ ∀ M, stepF sf by_ f k (C ++ M) = some (o, M) := by
 unfold stepF at h
 by_cases hok : okP f k = true
 ·rw [if_pos hok] at h
  obtain ⟨C, e, hC⟩ := partF_more h
  refine ⟨hok, C, e, fun M => ?_⟩
  unfold stepF
  rw [if_pos hok]
  exact hC M
 ·rw [if_neg hok] at h; cases h
/-- a format that is written, with another behind it -/
theorem sprS_join {sf : CellT → ByteArray} {by_ : Bool} {f g h : ByteArray} (hh : h.data.toList = f.data.toList ++ g.data.toList) : ∀ (n k : Nat) (out : List UInt8) (L : List CellT) (a : List UInt8), f.size - k ≤ n → k ≤ f.size → out.length ≤ 1024 → sprS sf by_ f k out L = (a, 0) →
 a.length ≤ 1024 ∧ ∃ U R, L = U ++ R ∧ ∀ M, sprS sf by_ f k out (U ++ M) = (a, 0) ∧ sprS sf by_ h k out (U ++ M) = sprS sf by_ h f.size a M := by
 intro n
 induction n using Nat.strongRecOn with
 | ind n ih =>
   intro k out L a hn hk ho hS
   have hsz := join_size hh
   have hdk := join_drop hh hk
   have hdl := drop_len f k
   by_cases h0 : f.size ≤ k
   ·have hke : k = f.size := by omega
    subst hke
    rw [sprS_end h0] at hS
    injection hS with hS _
    subst hS
    exact ⟨ho, [], L, rfl, fun M => ⟨sprS_end h0, rfl⟩⟩
   ·by_cases hr : k + runN f k < f.size
    ·rw [sprS_part (by omega) hr] at hS
     cases hst : stepF sf by_ f (k + runN f k) L with
     | none => rw [hst] at hS; injection hS with _ hS; cases hS
     | some q =>
       obtain ⟨o, L'⟩ := q
       rw [hst] at hS
       simp only [] at hS
       by_cases hl : 1024 < (out ++ ((f.data.toList.drop k).take (runN f k) ++ o)).length
       ·rw [if_pos hl] at hS; injection hS with _ hS; cases hS
       ·rw [if_neg hl] at hS
        obtain ⟨hok, C, rfl, hC⟩ := stepF_more hst
        have hpv := pv_gt f (k + runN f k)
        obtain ⟨_, _, _, p3, _, _, p4, _⟩ := join_parse hh hok
        obtain ⟨i0, U, R, rfl, i1⟩ := ih (f.size - (pv f (k + runN f k) + 1)) (by omega) (pv f (k + runN f k) + 1) _ L' a (Nat.le_refl _) (by omega) (by omega) hS
        have hrun : runN h k = runN f k := by
         have hix : 0 ≤ Lib.indexByte (f.data.toList.drop k) 37 := by
          rcases Int.lt_or_le (Lib.indexByte (f.data.toList.drop k) 37) 0 with h1 | h1
          ·exfalso
           unfold runN at hr
           rw [if_pos h1] at hr
           omega
          ·exact h1
         unfold runN
         rw [hdk, index_app _ hix, if_neg (by omega), if_neg (by omega)]
        refine ⟨i0, C ++ U, R, by simp, fun M => ⟨?_, ?_⟩⟩
        ·rw [List.append_assoc, sprS_part (by omega) hr, hC]
         simp only []
         rw [if_neg hl]
         exact (i1 M).1
        ·rw [List.append_assoc, sprS_part (f := h) (by omega) (by omega), hrun, join_step hh hok, hC, p3, hdk, List.take_append_of_le_length (by omega)]
         simp only []
         rw [if_neg hl]
         exact (i1 M).2
    ·rw [sprS_run (by omega) hr] at hS
     by_cases hl : 1024 < (out ++ (f.data.toList.drop k).take (runN f k)).length
     ·rw [if_pos hl] at hS; injection hS with _ hS; cases hS
     ·have hrl := runN_le f hk
      have hno : (37 : UInt8) ∉ f.data.toList.drop k := fun hm => by
       rcases split_at (f.data.toList.drop k) with hs | ⟨e, r, E, hs⟩
       ·exact hs hm
       ·have h1 := runN_at E hs
        rw [E] at hdl
        simp only [List.length_append, List.length_cons] at hdl
        omega
      have hrn := runN_all rfl hno
      have hkr : k + runN f k = f.size := by omega
      have hT : (f.data.toList.drop k).take (runN f k) = f.data.toList.drop k := by rw [hrn, List.take_length]
      have hTh : (h.data.toList.drop k).take (runN f k) = f.data.toList.drop k := by rw [hdk, List.take_append_of_le_length (by omega), hT]
      have hrh : runN f k ≤ runN h k := by
       rcases split_at (h.data.toList.drop k) with hs | ⟨e, r, E, hs⟩
       ·rw [runN_all rfl hs, hdk, List.length_append]; omega
       ·rw [runN_at E hs]
        rcases Nat.lt_or_ge e.length (runN f k) with h1 | h1
        ·exfalso
         have h2 : (h.data.toList.drop k)[e.length]? = some 37 := by rw [E]; simp
         rw [hdk, List.getElem?_append_left (by omega)] at h2
         exact hno (List.mem_of_getElem? h2)
        ·exact h1
      rw [if_neg hl] at hS
      injection hS with hS _
      subst hS
      refine ⟨by omega, [], L, rfl, fun M => ⟨?_, ?_⟩⟩
      ·rw [List.nil_append, sprS_run (by omega) hr, if_neg hl]
      ·rw [List.nil_append, sprS_split M (by omega) hrh (by rw [hTh, ← hT]; omega), hkr, hTh, hT]
/-- the statement's own words: the fewest values by which the first is written -/
theorem joins_plain {sf : CellT → ByteArray} {by_ : Bool} {f g h : ByteArray} (hh : h.data.toList = f.data.toList ++ g.data.toList) (L : List CellT) (n : Nat) (hn : n ≤ L.length) {a : List UInt8} (ha : sprS sf by_ f 0 [] (L.take n) = (a, 0))
 (hmin : ∀ j, j < n → (sprS sf by_ f 0 [] (L.take j)).2 ≠ 0) :
 ((sprS sf by_ g 0 [] (L.drop n)).2 ≠ 0 → (sprS sf by_ h 0 [] L).2 = (sprS sf by_ g 0 [] (L.drop n)).2 ∨ (sprS sf by_ h 0 [] L).2 = 3) ∧
 ((sprS sf by_ g 0 [] (L.drop n)).2 = 0 → sprS sf by_ h 0 [] L = if 1024 < (a ++ (sprS sf by_ g 0 [] (L.drop n)).1).length then ([], 3) else (a ++ (sprS sf by_ g 0 [] (L.drop n)).1, 0)) := by
 obtain ⟨h1, U, R, e, hU⟩ := sprS_join (g := g) (h := h) hh f.size 0 [] (L.take n) a (by omega) (by omega) (by decide) ha
 have hR : R = [] := by
  rcases Nat.eq_zero_or_pos R.length with h2 | h2
  ·exact List.length_eq_zero_iff.1 h2
  ·exfalso
   have h3 := congrArg List.length e
   rw [List.length_take, List.length_append] at h3
   have h4 : L.take U.length = U := by
    have h5 := congrArg (List.take U.length) e
    rw [List.take_take, List.take_left, Nat.min_eq_left (by omega)] at h5
    exact h5
   refine hmin U.length (by omega) ?_
   rw [h4]
   have h6 := (hU []).1
   rw [List.append_nil] at h6
   rw [h6]
 subst hR
 rw [List.append_nil] at e
 have hL : L = U ++ L.drop n := by rw [← e, List.take_append_drop]
 have hM := (hU (L.drop n)).2
 rw [← hL] at hM
 have hsh : sprS sf by_ h f.size a (L.drop n) = sprS sf by_ g 0 a (L.drop n) := sprS_same h.size f.size 0 a (L.drop n) (by omega) (by rw [join_drop hh (Nat.le_refl _), List.drop_eq_nil_of_le (by rw [← sz_list]; exact Nat.le_refl _)]; rfl)
 rw [hM, hsh]
 have hb := sprS_behind (sf := sf) (by_ := by_) (g := g) a g.size 0 [] (L.drop n) (by omega) (by simpa using h1)
 rw [List.append_nil] at hb
 rcases hb with ⟨b1, _, b3⟩ | ⟨b1, b2⟩
 ·exact ⟨fun hx => absurd b1 hx, fun _ => b3⟩
 ·refine ⟨fun _ => ?_, fun hx => absurd hx b1⟩
  rcases b2 with b2 | b2
  ·rw [b2]; exact .inl rfl
  ·rw [b2]; exact .inr rfl
end Go.Proofs.YtfdnhkjeoeffoaaGreatDoor
end
