/-
  DERIVED: THE SHELF's CONTRACTS AT THIS DUMP, IN PLAIN WORDS (tools/lay-plain.mjs out of 'YtfdnhkjeoeffoaaGreatDoorShelf.lean', which tools/lay-shelf.mjs wrote): THE SAME DECLARATIONS UNDER THE SAME NAMES: 'import', 'namespace', 'open', 'def', 'theorem' AND NOTHING ELSE: no command of the shelf's: FOR A HAND-IN. Each laying: the table of numbers ('.._ren') and one theorem, a field a fact of the dump's own or the kernel's comparison; each contract: ONE APPLICATION.
-/
import Derived.Shelf.Strings.Builder1
import Derived.Shelf.Strings.Builder2
import Derived.Shelf.Strings.OnBuilder
import Derived.Shelf.Strings.Trim
import Derived.Shelf.Small.Utf8
import Derived.Shelf.Small.Bits
import Derived.Shelf.Small.Strs
import Derived.Shelf.Small.Wraps
import Derived.Shelf.Strings.BuilderF
import Derived.Shelf.Strings.BuilderK
import Derived.Shelf.Strings.BuilderRune
import Derived.Shelf.Utf8.AppendRune
import Derived.Shelf.Utf8.AppendRunePlain
import Derived.Shelf.Strings.Builder2Cap
import Derived.Shelf.Strconv.Atoi
import Derived.Shelf.Strconv.Itoa0
import Derived.Shelf.Strconv.Itoa1
import Derived.Shelf.LaysM
import Derived.Shelf.Strconv.Itoa2
import Derived.Shelf.Strconv.Itoa3
import Derived.Shelf.Strconv.AtoiErrFast
import Derived.Shelf.Strconv.ParseIntEmpty
import Derived.Shelf.Strconv.AtoiFail
import Derived.Shelf.Strconv.Clone
import Derived.Shelf.Strconv.SyntaxError
import Derived.Shelf.LaysC
import Derived.Shelf.Strconv.ToError
import Derived.Shelf.Strconv.AtoiErr
import Derived.Shelf.Strconv.ErrVar
import Derived.Shelf.Strconv.Lower
import Derived.Shelf.Strconv.ParseUint10
import Derived.Shelf.Strconv.ParseUint10Empty
import Derived.Shelf.Strconv.ParseUint10Any
import Derived.Shelf.Strconv.ParseInt10
import Derived.Shelf.Strconv.AtoiLong
import Derived.Shelf.Strconv.AtoiInnerAll
import Derived.Shelf.Strconv.RangeError
import Derived.Shelf.Strconv.ToErrorRange
import Derived.Shelf.Strconv.AtoiAll
import Derived.Shelf.Strconv.ErrVarAll
import Derived.Shelf.Strconv.ParseUintEmpty
import Derived.Shelf.Strconv.ParseUint10b64
import Derived.Shelf.Strconv.ParseUint10b32
import Derived.Shelf.Strconv.ParseUint10b16
import Derived.Shelf.Strconv.ParseUint10b8
import Derived.Shelf.Strconv.ParseUint10At
import Derived.Shelf.Strconv.ParseInt10At64
import Derived.Shelf.Strconv.ParseInt10At32
import Derived.Shelf.Strconv.ParseInt10At16
import Derived.Shelf.Strconv.ParseInt10At8
import Derived.Shelf.Strconv.ParseInt10All
import Derived.Shelf.Strings.Search1
import Derived.Shelf.Strings.Search2
import Derived.Shelf.Strings.Search3
import Derived.Shelf.Strings.Shaped
import Derived.Shelf.Strings.Prefix
import Derived.Shelf.Unicode.Latin
import Derived.Shelf.Unicode.Decode
import Derived.Shelf.Strings.Runes
import Derived.Shelf.Strings.AsciiSet
import Derived.Shelf.Bits.Mul64
import Derived.Shelf.Strings.Repeat
import Derived.Shelf.Unicode.DecodeSlow
import Derived.Shelf.Unicode.DecodeAny
import Derived.Shelf.Unicode.DecodeLast
import Derived.Shelf.Unicode.CaseLookup
import Derived.Shelf.Unicode.CaseConvert
import Derived.Shelf.Unicode.CaseTo
import Derived.Shelf.Unicode.CaseLaid
import Derived.Shelf.Strings.MapAny
import Derived.Shelf.Strings.CaseAny
import Derived.Shelf.Strings.BuilderCap
import Derived.Shelf.Strings.MapGrows
import Derived.Ground.Names2Prog
import Derived.Shelf.Slices.SearchI
import Derived.Ground.SlgnProg
import Derived.Shelf.SlicesE.Clone
import Derived.Test.YtfdnhkjeoeffoaaGreatDoorProg
namespace Go.Proofs
open Go.Shelf
def Tryz.lays169_ren : Go.Shelf.Ren := ⟨fun | 169 => 91 | n => n, fun | 70 => 120 | 9 => 9 | 0 => 0 | 72 => 122 | 37 => 64 | 127 => 193 | 3 => 3 | 5 => 5 | n => n, fun | n => n⟩
theorem Tryz.lays169 : Go.Proofs.Lays.n169 Tryz.prog Tryz.lays169_ren := {
 mixed := by kernel_rfl
 f169 := Tryz.func91.trans (congrArg some (by kernel_rfl))
 t0 := Tryz.underlying0
 a0 := Tryz.isAgg0
 z0 := Tryz.sizeOf0
 v0 := Tryz.zeroValue0
 t3 := Tryz.underlying3
 a3 := Tryz.isAgg3
 z3 := Tryz.sizeOf3
 v3 := Tryz.zeroValue3
 t9 := Tryz.underlying9
 a9 := Tryz.isAgg9
 z9 := Tryz.sizeOf9
 v9 := Tryz.zeroValue9
 t37 := Tryz.underlying64
 a37 := Tryz.isAgg64
 z37 := Tryz.sizeOf64
 v37 := Tryz.zeroValue64
 t70 := Tryz.underlying120
 a70 := Tryz.isAgg120
 z70 := Tryz.sizeOf120
 v70 := Tryz.zeroValue120
 t72 := Tryz.underlying122
 a72 := Tryz.isAgg122
 z72 := Tryz.sizeOf122
 v72 := Tryz.zeroValue122
 t127 := Tryz.underlying193
 a127 := Tryz.isAgg193
 z127 := Tryz.sizeOf193
 v127 := Tryz.zeroValue193 }
theorem Tryz.Builder_Extra_169 : Builder.Extra Tryz.prog Tryz.lays169_ren := {
 sizeBuilder := by kernel_rfl
 liesBuilder := by kernel_rfl
 t5 := Tryz.underlying5
 a5 := Tryz.isAgg5
 z5 := Tryz.sizeOf5
 v5 := Tryz.zeroValue5
 infoByte := by kernel_rfl
 cellsByte := by kernel_rfl
 sizeByte := by kernel_rfl
 neB5 := by decide }
open Go.RowKit in
/-- (*strings.Builder).String: "String returns the accumulated string.": WHATEVER THE BUILDER HOLDS. (LAID: no walk: one application.) -/
theorem Tryz.Builder_String_any (B b : Nat) (l : List UInt8) (w : World) (h : Lib.IsBuilder 122 5 B b (Lib.byteCells l) w) (hBw : B ≤ w.heap.size) :
 Calls Tryz.prog 91 #[.pointer (some ⟨b, 0, none⟩)] w fun e w' => e = .returned (.string ⟨l.toArray⟩) ∧ Below B w w' := Any.Builder_String_any Tryz.lays169 Tryz.Builder_Extra_169 B b l w h hBw
def Tryz.lays161_ren : Go.Shelf.Ren := ⟨fun | 161 => 106 | 231 => 163 | 227 => 164 | 233 => 165 | 235 => 166 | 228 => 224 | 197 => 225 | 151 => 226 | 260 => 267 | 152 => 268 | 137 => 69 | 119 => 288 | 224 => 289 | 225 => 290 | 217 => 127 | 266 => 190 | n => n, fun | 9 => 9 | 4 => 4 | 3 => 3 | 5 => 5 | 117 => 219 | 116 => 218 | 0 => 0 | 124 => 222 | 105 => 274 | 21 => 21 | 119 => 324 | 46 => 89 | 139 => 327 | 138 => 326 | n => n, fun | 3 => 4 | 4 => 5 | n => n⟩
theorem Tryz.lays161 : Go.Proofs.Lays.n161 Tryz.prog Tryz.lays161_ren := {
 mixed := by kernel_rfl
 f119 := Tryz.func288.trans (congrArg some (by kernel_rfl))
 f137 := Tryz.func69.trans (congrArg some (by kernel_rfl))
 f151 := Tryz.func226.trans (congrArg some (by kernel_rfl))
 f152 := Tryz.func268.trans (congrArg some (by kernel_rfl))
 f161 := Tryz.func106.trans (congrArg some (by kernel_rfl))
 f197 := Tryz.func225.trans (congrArg some (by kernel_rfl))
 f217 := Tryz.func127.trans (congrArg some (by kernel_rfl))
 f224 := Tryz.func289.trans (congrArg some (by kernel_rfl))
 f225 := Tryz.func290.trans (congrArg some (by kernel_rfl))
 f227 := Tryz.func164.trans (congrArg some (by kernel_rfl))
 f228 := Tryz.func224.trans (congrArg some (by kernel_rfl))
 f231 := Tryz.func163.trans (congrArg some (by kernel_rfl))
 f233 := Tryz.func165.trans (congrArg some (by kernel_rfl))
 f235 := Tryz.func166.trans (congrArg some (by kernel_rfl))
 f260 := Tryz.func267.trans (congrArg some (by kernel_rfl))
 f266 := Tryz.func190.trans (congrArg some (by kernel_rfl))
 t0 := Tryz.underlying0
 a0 := Tryz.isAgg0
 z0 := Tryz.sizeOf0
 v0 := Tryz.zeroValue0
 t3 := Tryz.underlying3
 a3 := Tryz.isAgg3
 z3 := Tryz.sizeOf3
 v3 := Tryz.zeroValue3
 t4 := Tryz.underlying4
 a4 := Tryz.isAgg4
 z4 := Tryz.sizeOf4
 v4 := Tryz.zeroValue4
 t5 := Tryz.underlying5
 a5 := Tryz.isAgg5
 z5 := Tryz.sizeOf5
 v5 := Tryz.zeroValue5
 t9 := Tryz.underlying9
 a9 := Tryz.isAgg9
 z9 := Tryz.sizeOf9
 v9 := Tryz.zeroValue9
 t21 := Tryz.underlying21
 a21 := Tryz.isAgg21
 z21 := Tryz.sizeOf21
 v21 := Tryz.zeroValue21
 t46 := Tryz.underlying89
 a46 := Tryz.isAgg89
 z46 := Tryz.sizeOf89
 v46 := Tryz.zeroValue89
 t105 := Tryz.underlying274
 a105 := Tryz.isAgg274
 z105 := Tryz.sizeOf274
 v105 := Tryz.zeroValue274
 t116 := Tryz.underlying218
 a116 := Tryz.isAgg218
 z116 := Tryz.sizeOf218
 t117 := Tryz.underlying219
 a117 := Tryz.isAgg219
 z117 := Tryz.sizeOf219
 v117 := Tryz.zeroValue219
 t119 := Tryz.underlying324
 a119 := Tryz.isAgg324
 z119 := Tryz.sizeOf324
 t124 := Tryz.underlying222
 a124 := Tryz.isAgg222
 z124 := Tryz.sizeOf222
 v124 := Tryz.zeroValue222
 t138 := Tryz.underlying326
 a138 := Tryz.isAgg326
 z138 := Tryz.sizeOf326
 v138 := Tryz.zeroValue326
 t139 := Tryz.underlying327
 a139 := Tryz.isAgg327
 z139 := Tryz.sizeOf327
 v139 := Tryz.zeroValue327
 g3 := by kernel_rfl
 g4 := by kernel_rfl }
open Go.RowKit in
/-- strings.TrimLeft: "TrimLeft returns a slice of the string s with all leading Unicode code points contained in cutset removed.": AT A cutset OF ONE ASCII BYTE. The world is as it was. (LAID: no walk: one application.) -/
theorem Tryz.strings_TrimLeft_one (s : ByteArray) (c : UInt8) (hc : c.toNat < 128) (w : World) :
 Calls Tryz.prog 106 #[.string s, .string ⟨#[c]⟩] w fun e w' => e = .returned (.string ⟨(Lib.trimLeftB s.data.toList c).toArray⟩) ∧ w' = w := Any.strings_TrimLeft_one Tryz.lays161 s c hc w
def Tryz.lays162_ren : Go.Shelf.Ren := ⟨fun | 162 => 199 | 232 => 171 | 227 => 164 | 234 => 172 | 236 => 173 | 228 => 224 | 271 => 229 | 151 => 226 | 120 => 270 | 197 => 225 | 152 => 268 | 260 => 267 | 137 => 69 | 119 => 288 | 224 => 289 | 225 => 290 | 217 => 127 | 266 => 190 | n => n, fun | 9 => 9 | 4 => 4 | 3 => 3 | 5 => 5 | 117 => 219 | 116 => 218 | 0 => 0 | 124 => 222 | 21 => 21 | 105 => 274 | 46 => 89 | 119 => 324 | 139 => 327 | 138 => 326 | n => n, fun | 3 => 4 | 4 => 5 | n => n⟩
theorem Tryz.lays162 : Go.Proofs.Lays.n162 Tryz.prog Tryz.lays162_ren := {
 mixed := by kernel_rfl
 f119 := Tryz.func288.trans (congrArg some (by kernel_rfl))
 f120 := Tryz.func270.trans (congrArg some (by kernel_rfl))
 f137 := Tryz.func69.trans (congrArg some (by kernel_rfl))
 f151 := Tryz.func226.trans (congrArg some (by kernel_rfl))
 f152 := Tryz.func268.trans (congrArg some (by kernel_rfl))
 f162 := Tryz.func199.trans (congrArg some (by kernel_rfl))
 f197 := Tryz.func225.trans (congrArg some (by kernel_rfl))
 f217 := Tryz.func127.trans (congrArg some (by kernel_rfl))
 f224 := Tryz.func289.trans (congrArg some (by kernel_rfl))
 f225 := Tryz.func290.trans (congrArg some (by kernel_rfl))
 f227 := Tryz.func164.trans (congrArg some (by kernel_rfl))
 f228 := Tryz.func224.trans (congrArg some (by kernel_rfl))
 f232 := Tryz.func171.trans (congrArg some (by kernel_rfl))
 f234 := Tryz.func172.trans (congrArg some (by kernel_rfl))
 f236 := Tryz.func173.trans (congrArg some (by kernel_rfl))
 f260 := Tryz.func267.trans (congrArg some (by kernel_rfl))
 f266 := Tryz.func190.trans (congrArg some (by kernel_rfl))
 f271 := Tryz.func229.trans (congrArg some (by kernel_rfl))
 t0 := Tryz.underlying0
 a0 := Tryz.isAgg0
 z0 := Tryz.sizeOf0
 v0 := Tryz.zeroValue0
 t3 := Tryz.underlying3
 a3 := Tryz.isAgg3
 z3 := Tryz.sizeOf3
 v3 := Tryz.zeroValue3
 t4 := Tryz.underlying4
 a4 := Tryz.isAgg4
 z4 := Tryz.sizeOf4
 v4 := Tryz.zeroValue4
 t5 := Tryz.underlying5
 a5 := Tryz.isAgg5
 z5 := Tryz.sizeOf5
 v5 := Tryz.zeroValue5
 t9 := Tryz.underlying9
 a9 := Tryz.isAgg9
 z9 := Tryz.sizeOf9
 v9 := Tryz.zeroValue9
 t21 := Tryz.underlying21
 a21 := Tryz.isAgg21
 z21 := Tryz.sizeOf21
 v21 := Tryz.zeroValue21
 t46 := Tryz.underlying89
 a46 := Tryz.isAgg89
 z46 := Tryz.sizeOf89
 v46 := Tryz.zeroValue89
 t105 := Tryz.underlying274
 a105 := Tryz.isAgg274
 z105 := Tryz.sizeOf274
 v105 := Tryz.zeroValue274
 t116 := Tryz.underlying218
 a116 := Tryz.isAgg218
 z116 := Tryz.sizeOf218
 t117 := Tryz.underlying219
 a117 := Tryz.isAgg219
 z117 := Tryz.sizeOf219
 v117 := Tryz.zeroValue219
 t119 := Tryz.underlying324
 a119 := Tryz.isAgg324
 z119 := Tryz.sizeOf324
 t124 := Tryz.underlying222
 a124 := Tryz.isAgg222
 z124 := Tryz.sizeOf222
 v124 := Tryz.zeroValue222
 t138 := Tryz.underlying326
 a138 := Tryz.isAgg326
 z138 := Tryz.sizeOf326
 v138 := Tryz.zeroValue326
 t139 := Tryz.underlying327
 a139 := Tryz.isAgg327
 z139 := Tryz.sizeOf327
 v139 := Tryz.zeroValue327
 g3 := by kernel_rfl
 g4 := by kernel_rfl }
open Go.RowKit in
/-- strings.TrimRight: "TrimRight returns a slice of the string s, with all trailing Unicode code points contained in cutset removed.": AT A cutset OF ONE ASCII BYTE. The world is as it was. (LAID: no walk: one application.) -/
theorem Tryz.strings_TrimRight_one (s : ByteArray) (c : UInt8) (hc : c.toNat < 128) (w : World) (hs : s.size ≤ 9223372036854775807) :
 Calls Tryz.prog 199 #[.string s, .string ⟨#[c]⟩] w fun e w' => e = .returned (.string ⟨(Lib.trimRightB s.data.toList c).toArray⟩) ∧ w' = w := Any.strings_TrimRight_one Tryz.lays162 s c hc w hs
def Tryz.lays160_ren : Go.Shelf.Ren := ⟨fun | 160 => 111 | 232 => 171 | 231 => 163 | 227 => 164 | 234 => 172 | 233 => 165 | 236 => 173 | 235 => 166 | 228 => 224 | 271 => 229 | 151 => 226 | 197 => 225 | 120 => 270 | 152 => 268 | 260 => 267 | 137 => 69 | 119 => 288 | 224 => 289 | 225 => 290 | 217 => 127 | 266 => 190 | n => n, fun | 9 => 9 | 4 => 4 | 3 => 3 | 5 => 5 | 117 => 219 | 116 => 218 | 0 => 0 | 124 => 222 | 21 => 21 | 105 => 274 | 46 => 89 | 119 => 324 | 139 => 327 | 138 => 326 | n => n, fun | 3 => 4 | 4 => 5 | n => n⟩
theorem Tryz.lays160 : Go.Proofs.Lays.n160 Tryz.prog Tryz.lays160_ren := {
 mixed := by kernel_rfl
 f119 := Tryz.func288.trans (congrArg some (by kernel_rfl))
 f120 := Tryz.func270.trans (congrArg some (by kernel_rfl))
 f137 := Tryz.func69.trans (congrArg some (by kernel_rfl))
 f151 := Tryz.func226.trans (congrArg some (by kernel_rfl))
 f152 := Tryz.func268.trans (congrArg some (by kernel_rfl))
 f160 := Tryz.func111.trans (congrArg some (by kernel_rfl))
 f197 := Tryz.func225.trans (congrArg some (by kernel_rfl))
 f217 := Tryz.func127.trans (congrArg some (by kernel_rfl))
 f224 := Tryz.func289.trans (congrArg some (by kernel_rfl))
 f225 := Tryz.func290.trans (congrArg some (by kernel_rfl))
 f227 := Tryz.func164.trans (congrArg some (by kernel_rfl))
 f228 := Tryz.func224.trans (congrArg some (by kernel_rfl))
 f231 := Tryz.func163.trans (congrArg some (by kernel_rfl))
 f232 := Tryz.func171.trans (congrArg some (by kernel_rfl))
 f233 := Tryz.func165.trans (congrArg some (by kernel_rfl))
 f234 := Tryz.func172.trans (congrArg some (by kernel_rfl))
 f235 := Tryz.func166.trans (congrArg some (by kernel_rfl))
 f236 := Tryz.func173.trans (congrArg some (by kernel_rfl))
 f260 := Tryz.func267.trans (congrArg some (by kernel_rfl))
 f266 := Tryz.func190.trans (congrArg some (by kernel_rfl))
 f271 := Tryz.func229.trans (congrArg some (by kernel_rfl))
 t0 := Tryz.underlying0
 a0 := Tryz.isAgg0
 z0 := Tryz.sizeOf0
 v0 := Tryz.zeroValue0
 t3 := Tryz.underlying3
 a3 := Tryz.isAgg3
 z3 := Tryz.sizeOf3
 v3 := Tryz.zeroValue3
 t4 := Tryz.underlying4
 a4 := Tryz.isAgg4
 z4 := Tryz.sizeOf4
 v4 := Tryz.zeroValue4
 t5 := Tryz.underlying5
 a5 := Tryz.isAgg5
 z5 := Tryz.sizeOf5
 v5 := Tryz.zeroValue5
 t9 := Tryz.underlying9
 a9 := Tryz.isAgg9
 z9 := Tryz.sizeOf9
 v9 := Tryz.zeroValue9
 t21 := Tryz.underlying21
 a21 := Tryz.isAgg21
 z21 := Tryz.sizeOf21
 v21 := Tryz.zeroValue21
 t46 := Tryz.underlying89
 a46 := Tryz.isAgg89
 z46 := Tryz.sizeOf89
 v46 := Tryz.zeroValue89
 t105 := Tryz.underlying274
 a105 := Tryz.isAgg274
 z105 := Tryz.sizeOf274
 v105 := Tryz.zeroValue274
 t116 := Tryz.underlying218
 a116 := Tryz.isAgg218
 z116 := Tryz.sizeOf218
 t117 := Tryz.underlying219
 a117 := Tryz.isAgg219
 z117 := Tryz.sizeOf219
 v117 := Tryz.zeroValue219
 t119 := Tryz.underlying324
 a119 := Tryz.isAgg324
 z119 := Tryz.sizeOf324
 t124 := Tryz.underlying222
 a124 := Tryz.isAgg222
 z124 := Tryz.sizeOf222
 v124 := Tryz.zeroValue222
 t138 := Tryz.underlying326
 a138 := Tryz.isAgg326
 z138 := Tryz.sizeOf326
 v138 := Tryz.zeroValue326
 t139 := Tryz.underlying327
 a139 := Tryz.isAgg327
 z139 := Tryz.sizeOf327
 v139 := Tryz.zeroValue327
 g3 := by kernel_rfl
 g4 := by kernel_rfl }
open Go.RowKit in
/-- strings.Trim: "Trim returns a slice of the string s with all leading and trailing Unicode code points contained in cutset removed.": AT A cutset OF ONE ASCII BYTE. THE WORLD BEHIND IT: as it was, or (where s is not empty) with ONE DRAW MORE off the tape: the statement 'return trimLeftByte(trimRightByte(s, c), c)' draws its order of evaluation. (LAID: no walk: one application.) -/
theorem Tryz.strings_Trim_one (s : ByteArray) (c : UInt8) (hc : c.toNat < 128) (w : World) (hs : s.size ≤ 9223372036854775807) :
 Calls Tryz.prog 111 #[.string s, .string ⟨#[c]⟩] w fun e w' => e = .returned (.string ⟨(Lib.trimB s.data.toList c).toArray⟩) ∧ (w' = w ∨ w' = w.drew) := Any.strings_Trim_one Tryz.lays160 s c hc w hs
def Tryz.lays128_ren : Go.Shelf.Ren := ⟨fun | 128 => 263 | n => n, fun | 51 => 227 | 3 => 3 | 4 => 4 | 46 => 89 | 5 => 5 | 9 => 9 | n => n, fun | n => n⟩
theorem Tryz.lays128 : Go.Proofs.Lays.n128 Tryz.prog Tryz.lays128_ren := {
 mixed := by kernel_rfl
 f128 := Tryz.func263.trans (congrArg some (by kernel_rfl))
 t3 := Tryz.underlying3
 a3 := Tryz.isAgg3
 z3 := Tryz.sizeOf3
 v3 := Tryz.zeroValue3
 t4 := Tryz.underlying4
 a4 := Tryz.isAgg4
 z4 := Tryz.sizeOf4
 v4 := Tryz.zeroValue4
 t5 := Tryz.underlying5
 a5 := Tryz.isAgg5
 z5 := Tryz.sizeOf5
 v5 := Tryz.zeroValue5
 t9 := Tryz.underlying9
 a9 := Tryz.isAgg9
 z9 := Tryz.sizeOf9
 v9 := Tryz.zeroValue9
 t46 := Tryz.underlying89
 a46 := Tryz.isAgg89
 z46 := Tryz.sizeOf89
 v46 := Tryz.zeroValue89
 t51 := Tryz.underlying227
 a51 := Tryz.isAgg227
 z51 := Tryz.sizeOf227
 v51 := Tryz.zeroValue227 }
/-- bits.Len32: "Len32 returns the minimum number of bits required to represent x; the result is 0 for x == 0.": IT RETURNS 'Lib.bitLen x'; the world is as it was. ('h0', 'h1': x is a uint32.) (LAID: no walk: one application.) -/
theorem Tryz.bits_Len32 (x : Int) (w : World) (h0 : 0 ≤ x) (h1 : x ≤ 4294967295) :
 Calls Tryz.prog 263 #[.int .u32 x] w fun e w' => e = .returned (.int .i64 (Lib.bitLen x.toNat)) ∧ w' = w := Any.bits_Len32 Tryz.lays128 x w h0 h1
def Tryz.lays137_ren : Go.Shelf.Ren := ⟨fun | 137 => 69 | 217 => 127 | 266 => 190 | n => n, fun | 9 => 9 | 5 => 5 | 3 => 3 | n => n, fun | n => n⟩
theorem Tryz.lays137 : Go.Proofs.Lays.n137 Tryz.prog Tryz.lays137_ren := {
 mixed := by kernel_rfl
 f137 := Tryz.func69.trans (congrArg some (by kernel_rfl))
 f217 := Tryz.func127.trans (congrArg some (by kernel_rfl))
 f266 := Tryz.func190.trans (congrArg some (by kernel_rfl))
 t3 := Tryz.underlying3
 a3 := Tryz.isAgg3
 z3 := Tryz.sizeOf3
 v3 := Tryz.zeroValue3
 t5 := Tryz.underlying5
 a5 := Tryz.isAgg5
 z5 := Tryz.sizeOf5
 v5 := Tryz.zeroValue5
 t9 := Tryz.underlying9
 a9 := Tryz.isAgg9
 z9 := Tryz.sizeOf9
 v9 := Tryz.zeroValue9 }
open Go.RowKit in
/-- strings.IndexByte: "IndexByte returns the index of the first instance of c in s, or -1 if c is not present in s.": IT RETURNS 'Lib.indexByte s c'; the world is as it was. (LAID: no walk: one application.) -/
theorem Tryz.strings_IndexByte (s : ByteArray) (c : Int) (w : World) :
 Calls Tryz.prog 69 #[.string s, .int .u8 c] w fun e w' => e = .returned (.int .i64 (Lib.indexByte s.data.toList c.toNat.toUInt8)) ∧ w' = w := Any.strings_IndexByte Tryz.lays137 s c w
def Tryz.lays172_ren : Go.Shelf.Ren := ⟨fun | 172 => 188 | 244 => 239 | 245 => 240 | 247 => 272 | 279 => 273 | 280 => 274 | 281 => 275 | 282 => 276 | 287 => 291 | 316 => 292 | 171 => 196 | 205 => 293 | 321 => 303 | 322 => 304 | 243 => 250 | 246 => 280 | 283 => 297 | 284 => 298 | 285 => 299 | 286 => 300 | 129 => 264 | 317 => 305 | 318 => 306 | 319 => 307 | 320 => 308 | 337 => 310 | 338 => 311 | n => n, fun | 9 => 9 | 3 => 3 | 75 => 126 | 76 => 127 | 4 => 4 | 5 => 5 | 167 => 307 | 37 => 64 | 0 => 0 | 85 => 308 | 2 => 2 | 168 => 310 | 53 => 22 | 175 => 330 | 46 => 89 | 210 => 333 | 127 => 193 | 145 => 347 | 143 => 345 | 21 => 21 | 171 => 338 | 173 => 340 | 212 => 352 | 51 => 227 | 20 => 20 | 213 => 353 | 232 => 355 | 233 => 356 | 80 => 131 | n => n, fun | 15 => 6 | 16 => 7 | 17 => 8 | 18 => 9 | 19 => 10 | n => n⟩
theorem Tryz.lays172 : Go.Proofs.Lays.n172 Tryz.prog Tryz.lays172_ren := {
 mixed := by kernel_rfl
 f129 := Tryz.func264.trans (congrArg some (by kernel_rfl))
 f171 := Tryz.func196.trans (congrArg some (by kernel_rfl))
 f172 := Tryz.func188.trans (congrArg some (by kernel_rfl))
 f205 := Tryz.func293.trans (congrArg some (by kernel_rfl))
 f243 := Tryz.func250.trans (congrArg some (by kernel_rfl))
 f244 := Tryz.func239.trans (congrArg some (by kernel_rfl))
 f245 := Tryz.func240.trans (congrArg some (by kernel_rfl))
 f246 := Tryz.func280.trans (congrArg some (by kernel_rfl))
 f247 := Tryz.func272.trans (congrArg some (by kernel_rfl))
 f279 := Tryz.func273.trans (congrArg some (by kernel_rfl))
 f280 := Tryz.func274.trans (congrArg some (by kernel_rfl))
 f281 := Tryz.func275.trans (congrArg some (by kernel_rfl))
 f282 := Tryz.func276.trans (congrArg some (by kernel_rfl))
 f283 := Tryz.func297.trans (congrArg some (by kernel_rfl))
 f284 := Tryz.func298.trans (congrArg some (by kernel_rfl))
 f285 := Tryz.func299.trans (congrArg some (by kernel_rfl))
 f286 := Tryz.func300.trans (congrArg some (by kernel_rfl))
 f287 := Tryz.func291.trans (congrArg some (by kernel_rfl))
 f316 := Tryz.func292.trans (congrArg some (by kernel_rfl))
 f317 := Tryz.func305.trans (congrArg some (by kernel_rfl))
 f318 := Tryz.func306.trans (congrArg some (by kernel_rfl))
 f319 := Tryz.func307.trans (congrArg some (by kernel_rfl))
 f320 := Tryz.func308.trans (congrArg some (by kernel_rfl))
 f321 := Tryz.func303.trans (congrArg some (by kernel_rfl))
 f322 := Tryz.func304.trans (congrArg some (by kernel_rfl))
 f337 := Tryz.func310.trans (congrArg some (by kernel_rfl))
 f338 := Tryz.func311.trans (congrArg some (by kernel_rfl))
 t0 := Tryz.underlying0
 a0 := Tryz.isAgg0
 z0 := Tryz.sizeOf0
 v0 := Tryz.zeroValue0
 t2 := Tryz.underlying2
 a2 := Tryz.isAgg2
 z2 := Tryz.sizeOf2
 v2 := Tryz.zeroValue2
 t3 := Tryz.underlying3
 a3 := Tryz.isAgg3
 z3 := Tryz.sizeOf3
 v3 := Tryz.zeroValue3
 t4 := Tryz.underlying4
 a4 := Tryz.isAgg4
 z4 := Tryz.sizeOf4
 v4 := Tryz.zeroValue4
 t5 := Tryz.underlying5
 a5 := Tryz.isAgg5
 z5 := Tryz.sizeOf5
 v5 := Tryz.zeroValue5
 t9 := Tryz.underlying9
 a9 := Tryz.isAgg9
 z9 := Tryz.sizeOf9
 v9 := Tryz.zeroValue9
 t20 := Tryz.underlying20
 a20 := Tryz.isAgg20
 z20 := Tryz.sizeOf20
 v20 := Tryz.zeroValue20
 t21 := Tryz.underlying21
 a21 := Tryz.isAgg21
 z21 := Tryz.sizeOf21
 v21 := Tryz.zeroValue21
 t37 := Tryz.underlying64
 a37 := Tryz.isAgg64
 z37 := Tryz.sizeOf64
 v37 := Tryz.zeroValue64
 t46 := Tryz.underlying89
 a46 := Tryz.isAgg89
 z46 := Tryz.sizeOf89
 v46 := Tryz.zeroValue89
 t51 := Tryz.underlying227
 a51 := Tryz.isAgg227
 z51 := Tryz.sizeOf227
 v51 := Tryz.zeroValue227
 t53 := Tryz.underlying22
 a53 := Tryz.isAgg22
 z53 := Tryz.sizeOf22
 v53 := Tryz.zeroValue22
 t75 := Tryz.underlying126
 a75 := Tryz.isAgg126
 z75 := Tryz.sizeOf126
 v75 := Tryz.zeroValue126
 t76 := Tryz.underlying127
 a76 := Tryz.isAgg127
 z76 := Tryz.sizeOf127
 v76 := Tryz.zeroValue127
 t85 := Tryz.underlying308
 a85 := Tryz.isAgg308
 z85 := Tryz.sizeOf308
 v85 := Tryz.zeroValue308
 t127 := Tryz.underlying193
 a127 := Tryz.isAgg193
 z127 := Tryz.sizeOf193
 v127 := Tryz.zeroValue193
 t143 := Tryz.underlying345
 a143 := Tryz.isAgg345
 z143 := Tryz.sizeOf345
 v143 := Tryz.zeroValue345
 t145 := Tryz.underlying347
 a145 := Tryz.isAgg347
 z145 := Tryz.sizeOf347
 v145 := Tryz.zeroValue347
 t167 := Tryz.underlying307
 a167 := Tryz.isAgg307
 z167 := Tryz.sizeOf307
 v167 := Tryz.zeroValue307
 t168 := Tryz.underlying310
 a168 := Tryz.isAgg310
 z168 := Tryz.sizeOf310
 v168 := Tryz.zeroValue310
 t171 := Tryz.underlying338
 a171 := Tryz.isAgg338
 z171 := Tryz.sizeOf338
 v171 := Tryz.zeroValue338
 t173 := Tryz.underlying340
 a173 := Tryz.isAgg340
 z173 := Tryz.sizeOf340
 v173 := Tryz.zeroValue340
 t175 := Tryz.underlying330
 a175 := Tryz.isAgg330
 z175 := Tryz.sizeOf330
 v175 := Tryz.zeroValue330
 t210 := Tryz.underlying333
 a210 := Tryz.isAgg333
 z210 := Tryz.sizeOf333
 v210 := Tryz.zeroValue333
 t212 := Tryz.underlying352
 a212 := Tryz.isAgg352
 z212 := Tryz.sizeOf352
 v212 := Tryz.zeroValue352
 t213 := Tryz.underlying353
 a213 := Tryz.isAgg353
 z213 := Tryz.sizeOf353
 t232 := Tryz.underlying355
 a232 := Tryz.isAgg355
 z232 := Tryz.sizeOf355
 v232 := Tryz.zeroValue355
 t233 := Tryz.underlying356
 a233 := Tryz.isAgg356
 z233 := Tryz.sizeOf356
 v233 := Tryz.zeroValue356
 g15 := by kernel_rfl
 g16 := by kernel_rfl
 g17 := by kernel_rfl
 g18 := by kernel_rfl
 g19 := by kernel_rfl }
open Go.RowKit in
/-- strconv.Atoi: "Atoi is equivalent to ParseInt(s, 10, 0), converted to type int.": AT A DECIMAL NUMERAL OF AT MOST 18 BYTES: its value, and a nil error. The world behind the call: the one new row that the library's '[]byte(s)' lays. (LAID: no walk: one application.) -/
theorem Tryz.strconv_Atoi (s : ByteArray) (n : Int) (hl : s.size ≤ 18) (h : Lib.atoi s.data.toList = some n) (w : World) :
 Calls Tryz.prog 188 #[.string s] w fun e w' => e = .returned (.tuple #[.int .i64 n, .nilIface]) ∧ ∃ t, w' = Lib.bytesWorld w 5 t := Any.strconv_Atoi Tryz.lays172 s n hl h w
def Tryz.laysM171_ren : Go.Shelf.Ren := ⟨fun | 171 => 196 | 243 => 250 | 246 => 280 | 283 => 297 | 284 => 298 | 285 => 299 | 286 => 300 | 129 => 264 | 317 => 305 | 318 => 306 | 319 => 307 | 320 => 308 | 337 => 310 | 338 => 311 | n => n, fun | 3 => 3 | 9 => 9 | 2 => 2 | 4 => 4 | 171 => 338 | 0 => 0 | 53 => 22 | 37 => 64 | 5 => 5 | 173 => 340 | 212 => 352 | 51 => 227 | 20 => 20 | 213 => 353 | 46 => 89 | 232 => 355 | 233 => 356 | n => n, fun | 17 => 8 | 18 => 9 | 19 => 10 | n => n⟩
theorem Tryz.laysM171 : Go.Proofs.LaysM.n171 Tryz.prog Tryz.laysM171_ren := {
 mixed := by kernel_rfl
 f129 := Tryz.func264.trans (congrArg some (by kernel_rfl))
 f171 := Tryz.func196.trans (congrArg some (by kernel_rfl))
 f243 := Tryz.func250.trans (congrArg some (by kernel_rfl))
 f246 := Tryz.func280.trans (congrArg some (by kernel_rfl))
 f283 := Tryz.func297.trans (congrArg some (by kernel_rfl))
 f284 := Tryz.func298.trans (congrArg some (by kernel_rfl))
 f285 := Tryz.func299.trans (congrArg some (by kernel_rfl))
 f286 := Tryz.func300.trans (congrArg some (by kernel_rfl))
 f317 := Tryz.func305.trans (congrArg some (by kernel_rfl))
 f318 := Tryz.func306.trans (congrArg some (by kernel_rfl))
 f319 := Tryz.func307.trans (congrArg some (by kernel_rfl))
 f320 := Tryz.func308.trans (congrArg some (by kernel_rfl))
 f337 := Tryz.func310.trans (congrArg some (by kernel_rfl))
 f338 := Tryz.func311.trans (congrArg some (by kernel_rfl))
 t0 := Tryz.underlying0
 a0 := Tryz.isAgg0
 z0 := Tryz.sizeOf0
 v0 := Tryz.zeroValue0
 t2 := Tryz.underlying2
 a2 := Tryz.isAgg2
 z2 := Tryz.sizeOf2
 v2 := Tryz.zeroValue2
 t3 := Tryz.underlying3
 a3 := Tryz.isAgg3
 z3 := Tryz.sizeOf3
 v3 := Tryz.zeroValue3
 t4 := Tryz.underlying4
 a4 := Tryz.isAgg4
 z4 := Tryz.sizeOf4
 v4 := Tryz.zeroValue4
 t5 := Tryz.underlying5
 a5 := Tryz.isAgg5
 z5 := Tryz.sizeOf5
 v5 := Tryz.zeroValue5
 t9 := Tryz.underlying9
 a9 := Tryz.isAgg9
 z9 := Tryz.sizeOf9
 v9 := Tryz.zeroValue9
 t20 := Tryz.underlying20
 a20 := Tryz.isAgg20
 z20 := Tryz.sizeOf20
 v20 := Tryz.zeroValue20
 t37 := Tryz.underlying64
 a37 := Tryz.isAgg64
 z37 := Tryz.sizeOf64
 v37 := Tryz.zeroValue64
 t46 := Tryz.underlying89
 a46 := Tryz.isAgg89
 z46 := Tryz.sizeOf89
 v46 := Tryz.zeroValue89
 t51 := Tryz.underlying227
 a51 := Tryz.isAgg227
 z51 := Tryz.sizeOf227
 v51 := Tryz.zeroValue227
 t53 := Tryz.underlying22
 a53 := Tryz.isAgg22
 z53 := Tryz.sizeOf22
 v53 := Tryz.zeroValue22
 t171 := Tryz.underlying338
 a171 := Tryz.isAgg338
 z171 := Tryz.sizeOf338
 v171 := Tryz.zeroValue338
 t173 := Tryz.underlying340
 a173 := Tryz.isAgg340
 z173 := Tryz.sizeOf340
 v173 := Tryz.zeroValue340
 t212 := Tryz.underlying352
 a212 := Tryz.isAgg352
 z212 := Tryz.sizeOf352
 v212 := Tryz.zeroValue352
 t213 := Tryz.underlying353
 a213 := Tryz.isAgg353
 z213 := Tryz.sizeOf353
 t232 := Tryz.underlying355
 a232 := Tryz.isAgg355
 z232 := Tryz.sizeOf355
 v232 := Tryz.zeroValue355
 t233 := Tryz.underlying356
 a233 := Tryz.isAgg356
 z233 := Tryz.sizeOf356
 v233 := Tryz.zeroValue356
 g17 := by kernel_rfl
 g18 := by kernel_rfl
 g19 := by kernel_rfl
 i0 := by kernel_rfl
 i2 := by kernel_rfl
 i3 := by kernel_rfl
 i4 := by kernel_rfl
 i5 := by kernel_rfl
 i9 := by kernel_rfl
 i20 := by kernel_rfl
 i37 := by kernel_rfl
 i46 := by kernel_rfl
 i51 := by kernel_rfl
 i53 := by kernel_rfl
 i171 := by kernel_rfl
 i173 := by kernel_rfl
 i212 := by kernel_rfl
 i232 := by kernel_rfl
 i233 := by kernel_rfl
 m17 := by kernel_rfl
 m18 := by kernel_rfl
 m19 := by kernel_rfl }
open Go.RowKit Go.Sort Go.Lib in
/-- strconv.Itoa: "Itoa is equivalent to FormatInt(int64(i), 10).": i's DECIMAL NUMERAL ('Lib.itoa': a '-' where i is negative, then the digits), FOR EVERY int. The world behind the call: the world before it, new blocks behind the heap (the library's 'var a [24]byte'), draws. (LAID: no walk: one application.) -/
theorem Tryz.strconv_Itoa (n : Int) (h0 : -9223372036854775808 ≤ n) (h1 : n ≤ 9223372036854775807) (w : World) (htab : Lib.TabIs Tryz.prog w "internal/strconv.uint64pow10" .u64 Lib.pow10Tab) :
 Calls Tryz.prog 196 #[.int .i64 n] w fun e w' => e = .returned (.string ⟨(Lib.itoa n).toArray⟩) ∧ ∃ k os, w' = grow (w.drewN k) os := Any.strconv_Itoa Tryz.laysM171 n h0 h1 w htab
def Tryz.laysC172_ren : Go.Shelf.Ren := ⟨fun | 172 => 188 | 244 => 239 | 245 => 240 | 247 => 272 | 279 => 273 | 280 => 274 | 281 => 275 | 282 => 276 | 287 => 291 | 316 => 292 | 171 => 196 | 205 => 293 | 321 => 303 | 322 => 304 | 243 => 250 | 246 => 280 | 283 => 297 | 284 => 298 | 285 => 299 | 286 => 300 | 129 => 264 | 317 => 305 | 318 => 306 | 319 => 307 | 320 => 308 | 337 => 310 | 338 => 311 | n => n, fun | 9 => 9 | 3 => 3 | 75 => 126 | 76 => 127 | 4 => 4 | 5 => 5 | 167 => 307 | 37 => 64 | 0 => 0 | 85 => 308 | 2 => 2 | 168 => 310 | 53 => 22 | 175 => 330 | 46 => 89 | 210 => 333 | 127 => 193 | 145 => 347 | 143 => 345 | 21 => 21 | 171 => 338 | 173 => 340 | 212 => 352 | 51 => 227 | 20 => 20 | 213 => 353 | 232 => 355 | 233 => 356 | 80 => 131 | n => n, fun | 15 => 6 | 16 => 7 | 17 => 8 | 18 => 9 | 19 => 10 | n => n⟩
theorem Tryz.laysC172 : Go.Proofs.LaysC.n172 Tryz.prog Tryz.laysC172_ren := {
 mixed := by kernel_rfl
 f129 := Tryz.func264.trans (congrArg some (by kernel_rfl))
 f171 := Tryz.func196.trans (congrArg some (by kernel_rfl))
 f172 := Tryz.func188.trans (congrArg some (by kernel_rfl))
 f205 := Tryz.func293.trans (congrArg some (by kernel_rfl))
 f243 := Tryz.func250.trans (congrArg some (by kernel_rfl))
 f244 := Tryz.func239.trans (congrArg some (by kernel_rfl))
 f245 := Tryz.func240.trans (congrArg some (by kernel_rfl))
 f246 := Tryz.func280.trans (congrArg some (by kernel_rfl))
 f247 := Tryz.func272.trans (congrArg some (by kernel_rfl))
 f279 := Tryz.func273.trans (congrArg some (by kernel_rfl))
 f280 := Tryz.func274.trans (congrArg some (by kernel_rfl))
 f281 := Tryz.func275.trans (congrArg some (by kernel_rfl))
 f282 := Tryz.func276.trans (congrArg some (by kernel_rfl))
 f283 := Tryz.func297.trans (congrArg some (by kernel_rfl))
 f284 := Tryz.func298.trans (congrArg some (by kernel_rfl))
 f285 := Tryz.func299.trans (congrArg some (by kernel_rfl))
 f286 := Tryz.func300.trans (congrArg some (by kernel_rfl))
 f287 := Tryz.func291.trans (congrArg some (by kernel_rfl))
 f316 := Tryz.func292.trans (congrArg some (by kernel_rfl))
 f317 := Tryz.func305.trans (congrArg some (by kernel_rfl))
 f318 := Tryz.func306.trans (congrArg some (by kernel_rfl))
 f319 := Tryz.func307.trans (congrArg some (by kernel_rfl))
 f320 := Tryz.func308.trans (congrArg some (by kernel_rfl))
 f321 := Tryz.func303.trans (congrArg some (by kernel_rfl))
 f322 := Tryz.func304.trans (congrArg some (by kernel_rfl))
 f337 := Tryz.func310.trans (congrArg some (by kernel_rfl))
 f338 := Tryz.func311.trans (congrArg some (by kernel_rfl))
 t0 := Tryz.underlying0
 a0 := Tryz.isAgg0
 z0 := Tryz.sizeOf0
 v0 := Tryz.zeroValue0
 t2 := Tryz.underlying2
 a2 := Tryz.isAgg2
 z2 := Tryz.sizeOf2
 v2 := Tryz.zeroValue2
 t3 := Tryz.underlying3
 a3 := Tryz.isAgg3
 z3 := Tryz.sizeOf3
 v3 := Tryz.zeroValue3
 t4 := Tryz.underlying4
 a4 := Tryz.isAgg4
 z4 := Tryz.sizeOf4
 v4 := Tryz.zeroValue4
 t5 := Tryz.underlying5
 a5 := Tryz.isAgg5
 z5 := Tryz.sizeOf5
 v5 := Tryz.zeroValue5
 t9 := Tryz.underlying9
 a9 := Tryz.isAgg9
 z9 := Tryz.sizeOf9
 v9 := Tryz.zeroValue9
 t20 := Tryz.underlying20
 a20 := Tryz.isAgg20
 z20 := Tryz.sizeOf20
 v20 := Tryz.zeroValue20
 t21 := Tryz.underlying21
 a21 := Tryz.isAgg21
 z21 := Tryz.sizeOf21
 v21 := Tryz.zeroValue21
 t37 := Tryz.underlying64
 a37 := Tryz.isAgg64
 z37 := Tryz.sizeOf64
 v37 := Tryz.zeroValue64
 t46 := Tryz.underlying89
 a46 := Tryz.isAgg89
 z46 := Tryz.sizeOf89
 v46 := Tryz.zeroValue89
 t51 := Tryz.underlying227
 a51 := Tryz.isAgg227
 z51 := Tryz.sizeOf227
 v51 := Tryz.zeroValue227
 t53 := Tryz.underlying22
 a53 := Tryz.isAgg22
 z53 := Tryz.sizeOf22
 v53 := Tryz.zeroValue22
 t75 := Tryz.underlying126
 a75 := Tryz.isAgg126
 z75 := Tryz.sizeOf126
 v75 := Tryz.zeroValue126
 t76 := Tryz.underlying127
 a76 := Tryz.isAgg127
 z76 := Tryz.sizeOf127
 v76 := Tryz.zeroValue127
 t85 := Tryz.underlying308
 a85 := Tryz.isAgg308
 z85 := Tryz.sizeOf308
 v85 := Tryz.zeroValue308
 t127 := Tryz.underlying193
 a127 := Tryz.isAgg193
 z127 := Tryz.sizeOf193
 v127 := Tryz.zeroValue193
 t143 := Tryz.underlying345
 a143 := Tryz.isAgg345
 z143 := Tryz.sizeOf345
 v143 := Tryz.zeroValue345
 t145 := Tryz.underlying347
 a145 := Tryz.isAgg347
 z145 := Tryz.sizeOf347
 v145 := Tryz.zeroValue347
 t167 := Tryz.underlying307
 a167 := Tryz.isAgg307
 z167 := Tryz.sizeOf307
 v167 := Tryz.zeroValue307
 t168 := Tryz.underlying310
 a168 := Tryz.isAgg310
 z168 := Tryz.sizeOf310
 v168 := Tryz.zeroValue310
 t171 := Tryz.underlying338
 a171 := Tryz.isAgg338
 z171 := Tryz.sizeOf338
 v171 := Tryz.zeroValue338
 t173 := Tryz.underlying340
 a173 := Tryz.isAgg340
 z173 := Tryz.sizeOf340
 v173 := Tryz.zeroValue340
 t175 := Tryz.underlying330
 a175 := Tryz.isAgg330
 z175 := Tryz.sizeOf330
 v175 := Tryz.zeroValue330
 t210 := Tryz.underlying333
 a210 := Tryz.isAgg333
 z210 := Tryz.sizeOf333
 v210 := Tryz.zeroValue333
 t212 := Tryz.underlying352
 a212 := Tryz.isAgg352
 z212 := Tryz.sizeOf352
 v212 := Tryz.zeroValue352
 t213 := Tryz.underlying353
 a213 := Tryz.isAgg353
 z213 := Tryz.sizeOf353
 t232 := Tryz.underlying355
 a232 := Tryz.isAgg355
 z232 := Tryz.sizeOf355
 v232 := Tryz.zeroValue355
 t233 := Tryz.underlying356
 a233 := Tryz.isAgg356
 z233 := Tryz.sizeOf356
 v233 := Tryz.zeroValue356
 g15 := by kernel_rfl
 g16 := by kernel_rfl
 g17 := by kernel_rfl
 g18 := by kernel_rfl
 g19 := by kernel_rfl
 t80 := Tryz.underlying131
 a80 := Tryz.isAgg131
 z80 := Tryz.sizeOf131
 v80 := Tryz.zeroValue131
 i0 := by kernel_rfl
 i2 := by kernel_rfl
 i3 := by kernel_rfl
 i4 := by kernel_rfl
 i5 := by kernel_rfl
 i9 := by kernel_rfl
 i20 := by kernel_rfl
 i21 := by kernel_rfl
 i37 := by kernel_rfl
 i46 := by kernel_rfl
 i51 := by kernel_rfl
 i53 := by kernel_rfl
 i75 := by kernel_rfl
 i76 := by kernel_rfl
 i80 := by kernel_rfl
 i85 := by kernel_rfl
 i127 := by kernel_rfl
 i143 := by kernel_rfl
 i145 := by kernel_rfl
 i167 := by kernel_rfl
 i168 := by kernel_rfl
 i171 := by kernel_rfl
 i173 := by kernel_rfl
 i175 := by kernel_rfl
 i210 := by kernel_rfl
 i212 := by kernel_rfl
 i232 := by kernel_rfl
 i233 := by kernel_rfl
 m15 := by kernel_rfl
 m16 := by kernel_rfl
 m17 := by kernel_rfl
 m18 := by kernel_rfl
 m19 := by kernel_rfl
 c0 := by kernel_rfl
 c2 := by kernel_rfl
 c3 := by kernel_rfl
 c4 := by kernel_rfl
 c5 := by kernel_rfl
 c9 := by kernel_rfl
 c20 := by kernel_rfl
 c21 := by kernel_rfl
 c37 := by kernel_rfl
 c46 := by kernel_rfl
 c51 := by kernel_rfl
 c53 := by kernel_rfl
 c75 := by kernel_rfl
 c76 := by kernel_rfl
 c80 := by kernel_rfl
 c85 := by kernel_rfl
 c127 := by kernel_rfl
 c143 := by kernel_rfl
 c145 := by kernel_rfl
 c167 := by kernel_rfl
 c168 := by kernel_rfl
 c171 := by kernel_rfl
 c173 := by kernel_rfl
 c175 := by kernel_rfl
 c210 := by kernel_rfl
 c212 := by kernel_rfl
 c213 := by kernel_rfl
 c232 := by kernel_rfl
 c233 := by kernel_rfl }
open Go.RowKit in
/-- strconv.Atoi, AT EVERY STRING OF AT MOST 18 BYTES THAT IS NO DECIMAL NUMERAL (the empty one too): 0, AND AN ERROR THAT IS NOT nil: a *NumError in a new block N: {Func: "Atoi", Num: s's bytes, Err: what the variable ErrSyntax holds}. Of what was there nothing has turned. (LAID: no walk: one application.) -/
theorem Tryz.strconv_Atoi_err (s : ByteArray) (hl : s.size ≤ 18) (h : Lib.atoi s.data.toList = none) (ev : Value) (w : World) (hv : w.cell? ⟨6, 0, none⟩ = some ev) (hev : ev = .nilIface ∨ ∃ te pe, ev = .iface te pe) :
 Calls Tryz.prog 188 #[.string s] w fun e w' => ∃ N, e = .returned (.tuple #[.int .i64 0, .iface 310 (.pointer (some ⟨N, 0, none⟩))]) ∧ w.heap.size ≤ N ∧ w'.heap[N]? = some (.cells #[.string ⟨#[65, 116, 111, 105]⟩, .string s, ev] 333 (0, 0)) ∧ Below w.heap.size w w' := Any.strconv_Atoi_err Tryz.laysC172 s hl h ev w hv hev
def Tryz.lays144_ren : Go.Shelf.Ren := ⟨fun | 144 => 197 | 143 => 251 | 219 => 281 | 217 => 127 | 225 => 290 | 224 => 289 | 267 => 301 | 266 => 190 | 314 => 309 | n => n, fun | 9 => 9 | 4 => 4 | 3 => 3 | 5 => 5 | 46 => 89 | 146 => 279 | 51 => 227 | n => n, fun | 1 => 1 | n => n⟩
theorem Tryz.lays144 : Go.Proofs.Lays.n144 Tryz.prog Tryz.lays144_ren := {
 mixed := by kernel_rfl
 f143 := Tryz.func251.trans (congrArg some (by kernel_rfl))
 f144 := Tryz.func197.trans (congrArg some (by kernel_rfl))
 f217 := Tryz.func127.trans (congrArg some (by kernel_rfl))
 f219 := Tryz.func281.trans (congrArg some (by kernel_rfl))
 f224 := Tryz.func289.trans (congrArg some (by kernel_rfl))
 f225 := Tryz.func290.trans (congrArg some (by kernel_rfl))
 f266 := Tryz.func190.trans (congrArg some (by kernel_rfl))
 f267 := Tryz.func301.trans (congrArg some (by kernel_rfl))
 f314 := Tryz.func309.trans (congrArg some (by kernel_rfl))
 t3 := Tryz.underlying3
 a3 := Tryz.isAgg3
 z3 := Tryz.sizeOf3
 v3 := Tryz.zeroValue3
 t4 := Tryz.underlying4
 a4 := Tryz.isAgg4
 z4 := Tryz.sizeOf4
 v4 := Tryz.zeroValue4
 t5 := Tryz.underlying5
 a5 := Tryz.isAgg5
 z5 := Tryz.sizeOf5
 v5 := Tryz.zeroValue5
 t9 := Tryz.underlying9
 a9 := Tryz.isAgg9
 z9 := Tryz.sizeOf9
 v9 := Tryz.zeroValue9
 t46 := Tryz.underlying89
 a46 := Tryz.isAgg89
 z46 := Tryz.sizeOf89
 v46 := Tryz.zeroValue89
 t51 := Tryz.underlying227
 a51 := Tryz.isAgg227
 z51 := Tryz.sizeOf227
 v51 := Tryz.zeroValue227
 t146 := Tryz.underlying279
 a146 := Tryz.isAgg279
 z146 := Tryz.sizeOf279
 v146 := Tryz.zeroValue279
 g1 := by kernel_rfl }
open Go.RowKit Go.Lib in
/-- strings.Contains: "Contains reports whether substr is within s.": AT A substr OF ONE BYTE c: IT RETURNS 'decide (0 ≤ Lib.indexByte s c)'; the world is as it was. (LAID: no walk: one application.) -/
theorem Tryz.strings_Contains_one (s : ByteArray) (c : UInt8) (w : World) :
 Calls Tryz.prog 197 #[.string s, .string ⟨#[c]⟩] w fun e w' => e = .returned (.bool (decide (0 ≤ Lib.indexByte s.data.toList c))) ∧ w' = w := Any.strings_Contains_one Tryz.lays144 s c w
def Tryz.lays99_ren : Go.Shelf.Ren := ⟨fun | 99 => 107 | 206 => 167 | n => n, fun | 9 => 9 | 4 => 4 | 3 => 3 | n => n, fun | n => n⟩
theorem Tryz.lays99 : Go.Proofs.Lays.n99 Tryz.prog Tryz.lays99_ren := {
 mixed := by kernel_rfl
 f99 := Tryz.func107.trans (congrArg some (by kernel_rfl))
 f206 := Tryz.func167.trans (congrArg some (by kernel_rfl))
 t3 := Tryz.underlying3
 a3 := Tryz.isAgg3
 z3 := Tryz.sizeOf3
 v3 := Tryz.zeroValue3
 t4 := Tryz.underlying4
 a4 := Tryz.isAgg4
 z4 := Tryz.sizeOf4
 v4 := Tryz.zeroValue4
 t9 := Tryz.underlying9
 a9 := Tryz.isAgg9
 z9 := Tryz.sizeOf9
 v9 := Tryz.zeroValue9 }
open Go.RowKit Go.Lib in
/-- strings.HasPrefix: "HasPrefix reports whether the string s begins with prefix.": IT RETURNS 'Lib.hasPrefix s prefix'; the world is as it was. (LAID: no walk: one application.) -/
theorem Tryz.strings_HasPrefix (s p : ByteArray) (w : World) :
 Calls Tryz.prog 107 #[.string s, .string p] w fun e w' => e = .returned (.bool (Lib.hasPrefix s.data.toList p.data.toList)) ∧ w' = w := Any.strings_HasPrefix Tryz.lays99 s p w
def Tryz.lays102_ren : Go.Shelf.Ren := ⟨fun | 102 => 198 | 209 => 252 | 207 => 282 | n => n, fun | 9 => 9 | 4 => 4 | 3 => 3 | n => n, fun | n => n⟩
theorem Tryz.lays102 : Go.Proofs.Lays.n102 Tryz.prog Tryz.lays102_ren := {
 mixed := by kernel_rfl
 f102 := Tryz.func198.trans (congrArg some (by kernel_rfl))
 f207 := Tryz.func282.trans (congrArg some (by kernel_rfl))
 f209 := Tryz.func252.trans (congrArg some (by kernel_rfl))
 t3 := Tryz.underlying3
 a3 := Tryz.isAgg3
 z3 := Tryz.sizeOf3
 v3 := Tryz.zeroValue3
 t4 := Tryz.underlying4
 a4 := Tryz.isAgg4
 z4 := Tryz.sizeOf4
 v4 := Tryz.zeroValue4
 t9 := Tryz.underlying9
 a9 := Tryz.isAgg9
 z9 := Tryz.sizeOf9
 v9 := Tryz.zeroValue9 }
open Go.RowKit Go.Lib in
/-- strings.TrimSuffix: "TrimSuffix returns s without the provided trailing suffix string. If s doesn't end with suffix, s is returned unchanged.": IT RETURNS 'Lib.trimSuffix s suffix'; the world is as it was. (LAID: no walk: one application.) -/
theorem Tryz.strings_TrimSuffix (s p : ByteArray) (w : World) (hs : s.size ≤ 9223372036854775807) :
 Calls Tryz.prog 198 #[.string s, .string p] w fun e w' => e = .returned (.string ⟨(Lib.trimSuffix s.data.toList p.data.toList).toArray⟩) ∧ w' = w := Any.strings_TrimSuffix Tryz.lays102 s p w hs
def Tryz.lays197_ren : Go.Shelf.Ren := ⟨fun | 197 => 225 | 260 => 267 | n => n, fun | 9 => 9 | 21 => 21 | 3 => 3 | 4 => 4 | 5 => 5 | 105 => 274 | 119 => 324 | 0 => 0 | 46 => 89 | 139 => 327 | 138 => 326 | n => n, fun | 3 => 4 | 4 => 5 | n => n⟩
theorem Tryz.lays197 : Go.Proofs.Lays.n197 Tryz.prog Tryz.lays197_ren := {
 mixed := by kernel_rfl
 f197 := Tryz.func225.trans (congrArg some (by kernel_rfl))
 f260 := Tryz.func267.trans (congrArg some (by kernel_rfl))
 t0 := Tryz.underlying0
 a0 := Tryz.isAgg0
 z0 := Tryz.sizeOf0
 v0 := Tryz.zeroValue0
 t3 := Tryz.underlying3
 a3 := Tryz.isAgg3
 z3 := Tryz.sizeOf3
 v3 := Tryz.zeroValue3
 t4 := Tryz.underlying4
 a4 := Tryz.isAgg4
 z4 := Tryz.sizeOf4
 v4 := Tryz.zeroValue4
 t5 := Tryz.underlying5
 a5 := Tryz.isAgg5
 z5 := Tryz.sizeOf5
 v5 := Tryz.zeroValue5
 t9 := Tryz.underlying9
 a9 := Tryz.isAgg9
 z9 := Tryz.sizeOf9
 v9 := Tryz.zeroValue9
 t21 := Tryz.underlying21
 a21 := Tryz.isAgg21
 z21 := Tryz.sizeOf21
 v21 := Tryz.zeroValue21
 t46 := Tryz.underlying89
 a46 := Tryz.isAgg89
 z46 := Tryz.sizeOf89
 v46 := Tryz.zeroValue89
 t105 := Tryz.underlying274
 a105 := Tryz.isAgg274
 z105 := Tryz.sizeOf274
 v105 := Tryz.zeroValue274
 t119 := Tryz.underlying324
 a119 := Tryz.isAgg324
 z119 := Tryz.sizeOf324
 t138 := Tryz.underlying326
 a138 := Tryz.isAgg326
 z138 := Tryz.sizeOf326
 v138 := Tryz.zeroValue326
 t139 := Tryz.underlying327
 a139 := Tryz.isAgg327
 z139 := Tryz.sizeOf327
 v139 := Tryz.zeroValue327
 g3 := by kernel_rfl
 g4 := by kernel_rfl }
def Tryz.lays105_ren : Go.Shelf.Ren := ⟨fun | 105 => 114 | 212 => 184 | 99 => 107 | 165 => 185 | 166 => 88 | 170 => 90 | 169 => 91 | 263 => 235 | 264 => 236 | 206 => 167 | 240 => 139 | 241 => 237 | 276 => 206 | 277 => 271 | n => n, fun | 9 => 9 | 3 => 3 | 4 => 4 | 20 => 20 | 0 => 0 | 46 => 89 | 109 => 236 | 5 => 5 | 72 => 122 | 76 => 127 | 51 => 227 | 146 => 279 | 53 => 22 | 148 => 285 | 70 => 120 | 37 => 64 | 75 => 126 | 127 => 193 | 164 => 255 | 80 => 131 | n => n, fun | n => n⟩
theorem Tryz.lays105 : Go.Proofs.Lays.n105 Tryz.prog Tryz.lays105_ren := {
 mixed := by kernel_rfl
 f99 := Tryz.func107.trans (congrArg some (by kernel_rfl))
 f105 := Tryz.func114.trans (congrArg some (by kernel_rfl))
 f165 := Tryz.func185.trans (congrArg some (by kernel_rfl))
 f166 := Tryz.func88.trans (congrArg some (by kernel_rfl))
 f169 := Tryz.func91.trans (congrArg some (by kernel_rfl))
 f170 := Tryz.func90.trans (congrArg some (by kernel_rfl))
 f206 := Tryz.func167.trans (congrArg some (by kernel_rfl))
 f212 := Tryz.func184.trans (congrArg some (by kernel_rfl))
 f240 := Tryz.func139.trans (congrArg some (by kernel_rfl))
 f241 := Tryz.func237.trans (congrArg some (by kernel_rfl))
 f263 := Tryz.func235.trans (congrArg some (by kernel_rfl))
 f264 := Tryz.func236.trans (congrArg some (by kernel_rfl))
 f276 := Tryz.func206.trans (congrArg some (by kernel_rfl))
 f277 := Tryz.func271.trans (congrArg some (by kernel_rfl))
 t0 := Tryz.underlying0
 a0 := Tryz.isAgg0
 z0 := Tryz.sizeOf0
 v0 := Tryz.zeroValue0
 t3 := Tryz.underlying3
 a3 := Tryz.isAgg3
 z3 := Tryz.sizeOf3
 v3 := Tryz.zeroValue3
 t4 := Tryz.underlying4
 a4 := Tryz.isAgg4
 z4 := Tryz.sizeOf4
 v4 := Tryz.zeroValue4
 t5 := Tryz.underlying5
 a5 := Tryz.isAgg5
 z5 := Tryz.sizeOf5
 v5 := Tryz.zeroValue5
 t9 := Tryz.underlying9
 a9 := Tryz.isAgg9
 z9 := Tryz.sizeOf9
 v9 := Tryz.zeroValue9
 t20 := Tryz.underlying20
 a20 := Tryz.isAgg20
 z20 := Tryz.sizeOf20
 v20 := Tryz.zeroValue20
 t37 := Tryz.underlying64
 a37 := Tryz.isAgg64
 z37 := Tryz.sizeOf64
 v37 := Tryz.zeroValue64
 t46 := Tryz.underlying89
 a46 := Tryz.isAgg89
 z46 := Tryz.sizeOf89
 v46 := Tryz.zeroValue89
 t51 := Tryz.underlying227
 a51 := Tryz.isAgg227
 z51 := Tryz.sizeOf227
 v51 := Tryz.zeroValue227
 t53 := Tryz.underlying22
 a53 := Tryz.isAgg22
 z53 := Tryz.sizeOf22
 v53 := Tryz.zeroValue22
 t70 := Tryz.underlying120
 a70 := Tryz.isAgg120
 z70 := Tryz.sizeOf120
 v70 := Tryz.zeroValue120
 t72 := Tryz.underlying122
 a72 := Tryz.isAgg122
 z72 := Tryz.sizeOf122
 v72 := Tryz.zeroValue122
 t75 := Tryz.underlying126
 a75 := Tryz.isAgg126
 z75 := Tryz.sizeOf126
 v75 := Tryz.zeroValue126
 t76 := Tryz.underlying127
 a76 := Tryz.isAgg127
 z76 := Tryz.sizeOf127
 v76 := Tryz.zeroValue127
 t109 := Tryz.underlying236
 a109 := Tryz.isAgg236
 z109 := Tryz.sizeOf236
 v109 := Tryz.zeroValue236
 t127 := Tryz.underlying193
 a127 := Tryz.isAgg193
 z127 := Tryz.sizeOf193
 v127 := Tryz.zeroValue193
 t146 := Tryz.underlying279
 a146 := Tryz.isAgg279
 z146 := Tryz.sizeOf279
 v146 := Tryz.zeroValue279
 t148 := Tryz.underlying285
 a148 := Tryz.isAgg285
 z148 := Tryz.sizeOf285
 v148 := Tryz.zeroValue285
 t164 := Tryz.underlying255
 a164 := Tryz.isAgg255
 z164 := Tryz.sizeOf255
 v164 := Tryz.zeroValue255 }
theorem Tryz.Builder_Extra_105 : Builder.Extra Tryz.prog Tryz.lays105_ren := {
 sizeBuilder := by kernel_rfl
 liesBuilder := by kernel_rfl
 t5 := Tryz.underlying5
 a5 := Tryz.isAgg5
 z5 := Tryz.sizeOf5
 v5 := Tryz.zeroValue5
 infoByte := by kernel_rfl
 cellsByte := by kernel_rfl
 sizeByte := by kernel_rfl
 neB5 := by decide }
open Go.RowKit Go.Lib in
/-- **strings.Repeat: count ≥ 0, the result within one allocation: count copies of s.** (LAID: no walk: one application.) -/
theorem Tryz.strings_Repeat (s : ByteArray) (c : Nat) (w : World) (hc : c ≤ 9223372036854775807) (hlen : s.size * c ≤ 140737488355328) :
 Calls Tryz.prog 114 #[.string s, .int .i64 c] w fun e w' => e = .returned (.string ⟨(Lib.repeatL s.data.toList c).toArray⟩) ∧ Below w.heap.size w w' := Any.strings_Repeat Tryz.lays105 Tryz.Builder_Extra_105 s c w hc hlen
def Tryz.lays260_ren : Go.Shelf.Ren := ⟨fun | 260 => 267 | n => n, fun | 9 => 9 | 21 => 21 | 3 => 3 | 4 => 4 | 5 => 5 | 119 => 324 | 0 => 0 | 46 => 89 | 139 => 327 | 138 => 326 | n => n, fun | 3 => 4 | 4 => 5 | n => n⟩
theorem Tryz.lays260 : Go.Proofs.Lays.n260 Tryz.prog Tryz.lays260_ren := {
 mixed := by kernel_rfl
 f260 := Tryz.func267.trans (congrArg some (by kernel_rfl))
 t0 := Tryz.underlying0
 a0 := Tryz.isAgg0
 z0 := Tryz.sizeOf0
 v0 := Tryz.zeroValue0
 t3 := Tryz.underlying3
 a3 := Tryz.isAgg3
 z3 := Tryz.sizeOf3
 v3 := Tryz.zeroValue3
 t4 := Tryz.underlying4
 a4 := Tryz.isAgg4
 z4 := Tryz.sizeOf4
 v4 := Tryz.zeroValue4
 t5 := Tryz.underlying5
 a5 := Tryz.isAgg5
 z5 := Tryz.sizeOf5
 v5 := Tryz.zeroValue5
 t9 := Tryz.underlying9
 a9 := Tryz.isAgg9
 z9 := Tryz.sizeOf9
 v9 := Tryz.zeroValue9
 t21 := Tryz.underlying21
 a21 := Tryz.isAgg21
 z21 := Tryz.sizeOf21
 v21 := Tryz.zeroValue21
 t46 := Tryz.underlying89
 a46 := Tryz.isAgg89
 z46 := Tryz.sizeOf89
 v46 := Tryz.zeroValue89
 t119 := Tryz.underlying324
 a119 := Tryz.isAgg324
 z119 := Tryz.sizeOf324
 t138 := Tryz.underlying326
 a138 := Tryz.isAgg326
 z138 := Tryz.sizeOf326
 v138 := Tryz.zeroValue326
 t139 := Tryz.underlying327
 a139 := Tryz.isAgg327
 z139 := Tryz.sizeOf327
 v139 := Tryz.zeroValue327
 g3 := by kernel_rfl
 g4 := by kernel_rfl }
open Go.RowKit Go.Lib in
/-- **unicode/utf8.DecodeRuneInString AT EVERY STRING.** (LAID: no walk: one application.) -/
theorem Tryz.utf8_DecodeRuneInString (s : ByteArray) (w : World) (hT : Lib.Utf8Tabs 4 5 w) :
 Calls Tryz.prog 225 #[.string s] w fun e w' => e = .returned (.tuple #[.int .i32 (Lib.decodeGo s).1, .int .i64 (Lib.decodeGo s).2]) ∧ Below w.heap.size w w' := Any.utf8_DecodeRuneInString Tryz.lays197 s w hT
def Tryz.lays262_ren : Go.Shelf.Ren := ⟨fun | 262 => 249 | 313 => 279 | 274 => 295 | 275 => 296 | n => n, fun | 3 => 3 | 21 => 21 | 162 => 316 | 203 => 314 | 4 => 4 | 160 => 335 | 46 => 89 | 0 => 0 | 208 => 351 | 51 => 227 | 206 => 349 | n => n, fun | 13 => 3 | n => n⟩
theorem Tryz.lays262 : Go.Proofs.Lays.n262 Tryz.prog Tryz.lays262_ren := {
 mixed := by kernel_rfl
 f262 := Tryz.func249.trans (congrArg some (by kernel_rfl))
 f274 := Tryz.func295.trans (congrArg some (by kernel_rfl))
 f275 := Tryz.func296.trans (congrArg some (by kernel_rfl))
 f313 := Tryz.func279.trans (congrArg some (by kernel_rfl))
 t0 := Tryz.underlying0
 a0 := Tryz.isAgg0
 z0 := Tryz.sizeOf0
 v0 := Tryz.zeroValue0
 t3 := Tryz.underlying3
 a3 := Tryz.isAgg3
 z3 := Tryz.sizeOf3
 v3 := Tryz.zeroValue3
 t4 := Tryz.underlying4
 a4 := Tryz.isAgg4
 z4 := Tryz.sizeOf4
 v4 := Tryz.zeroValue4
 t21 := Tryz.underlying21
 a21 := Tryz.isAgg21
 z21 := Tryz.sizeOf21
 v21 := Tryz.zeroValue21
 t46 := Tryz.underlying89
 a46 := Tryz.isAgg89
 z46 := Tryz.sizeOf89
 v46 := Tryz.zeroValue89
 t51 := Tryz.underlying227
 a51 := Tryz.isAgg227
 z51 := Tryz.sizeOf227
 v51 := Tryz.zeroValue227
 t160 := Tryz.underlying335
 a160 := Tryz.isAgg335
 z160 := Tryz.sizeOf335
 v160 := Tryz.zeroValue335
 t162 := Tryz.underlying316
 a162 := Tryz.isAgg316
 z162 := Tryz.sizeOf316
 v162 := Tryz.zeroValue316
 t203 := Tryz.underlying314
 a203 := Tryz.isAgg314
 z203 := Tryz.sizeOf314
 v203 := Tryz.zeroValue314
 t206 := Tryz.underlying349
 a206 := Tryz.isAgg349
 z206 := Tryz.sizeOf349
 v206 := Tryz.zeroValue349
 t208 := Tryz.underlying351
 a208 := Tryz.isAgg351
 z208 := Tryz.sizeOf351
 v208 := Tryz.zeroValue351
 g13 := by kernel_rfl }
def Tryz.laysSlE041_f175_ren : Go.Shelf.Ren := ⟨fun | 41 => 175 | n => n, fun | 22 => 161 | 23 => 227 | 4 => 4 | n => n, fun | n => n⟩
theorem Tryz.laysSlE041_f175 : Go.Proofs.SlLaysE0.n41 Tryz.prog Tryz.laysSlE041_f175_ren := {
 mixed := by kernel_rfl
 f41 := ⟨Tryz.f175.name, by decide, Tryz.func175.trans (congrArg some (by kernel_rfl))⟩
 t4 := Tryz.underlying4
 a4 := Tryz.isAgg4
 z4 := Tryz.sizeOf4
 v4 := Tryz.zeroValue4
 t22 := Tryz.underlying161
 a22 := Tryz.isAgg161
 z22 := Tryz.sizeOf161
 v22 := Tryz.zeroValue161 }
open Go.RowKit Go.Lib in
/-- slices.Clone: "Clone returns a copy of the slice. The elements are copied using assignment, so this is a shallow clone. The result may have additional unused capacity. The result preserves the nilness of s.": OF A SLICE THAT IS NOT nil IT RETURNS A SLICE THAT IS NOT nil, OF THE SAME CELLS, IN MEMORY OF THE CALL's OWN ('ownsRow': the how-to's 6f); below the heap's size at the call all is as it was. (LAID AT THE INSTANCE 'slices.Clone[[]uint32,uint32]': no walk: one application.) -/
theorem Tryz.slices_Clone (i0 : TypeInfo) (z : Value) (size bytes : Nat) (hi : Tryz.prog.info? 227 = some i0) (hz0 : i0.zero = some z) (hz1 : i0.size = size) (hz2 : i0.bytes = bytes) (hzs : z.cells.size = size) (hsz : 0 < size) (z23 : ∀ w, (Go.sizeOf 227).run Tryz.prog w = .ok size w) (b off n c : Nat) (news : List Value) (w : World) (hl : news.length = n * size) (hn : n ≤ maxLen) (hbig : n * bytes ≤ 140737488355328) (hc : ∀ j u, news[j]? = some u → w.cell? ⟨b, off + j, none⟩ = some u) (h1 : ∀ u ∈ news, u.oneCell' = true) :
 Calls Tryz.prog 175 #[.slice (some ⟨b, off, none⟩) n c] w fun e w' => ∃ v', e = .returned v' ∧ w'.ownsRow w.heap.size 227 size v' n news ∧ v' ≠ .slice none 0 0 ∧ Below w.heap.size w w' := AnyE.slices_Clone Tryz.laysSlE041_f175 i0 z size bytes hi hz0 hz1 hz2 hzs hsz z23 b off n c news w hl hn hbig hc h1
open Go.RowKit Go.Lib in
/-- The same at nil: nil comes back; the world is as it was; nothing is asked of the element's type. (LAID AT THE INSTANCE 'slices.Clone[[]uint32,uint32]': no walk: one application.) -/
theorem Tryz.slices_Clone_nil (n c : Nat) (w : World) :
 Calls Tryz.prog 175 #[.slice none n c] w fun e w' => e = .returned (.slice none 0 0) ∧ w' = w := AnyE.slices_Clone_nil Tryz.laysSlE041_f175 n c w
end Go.Proofs
