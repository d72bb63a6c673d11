/-
  DERIVED: THE SHELF's CONTRACTS AT THIS DUMP, IN PLAIN WORDS (tools/lay-plain.mjs out of 'TryzShelf.lean', which tools/lay-shelf.mjs wrote): THE SAME DECLARATIONS UNDER THE SAME NAMES: 'import', 'namespace', 'open', 'def', 'theorem' AND NOTHING ELSE: no command of the shelf's: FOR A HAND-IN. Each laying: the table of numbers ('.._ren') and one theorem, a field a fact of the dump's own or the kernel's comparison; each contract: ONE APPLICATION.
-/
import Derived.Shelf.Pu.Clone
import Derived.Shelf.Unicode.ValidAny
import Derived.Shelf.Strings.SlTrimAscii
import Derived.Shelf.Strings.Builder1
import Derived.Shelf.Strings.Trim
import Derived.Shelf.Small.Utf8
import Derived.Shelf.Small.Bits
import Derived.Shelf.Small.Strs
import Derived.Shelf.Small.Wraps
import Derived.Shelf.Strings.BuilderF
import Derived.Shelf.Strings.BuilderK
import Derived.Shelf.Utf8.RuneCount
import Derived.Shelf.Strconv.Atoi
import Derived.Shelf.Strconv.Itoa0
import Derived.Shelf.Strconv.Itoa1
import Derived.Shelf.LaysM
import Derived.Shelf.Strconv.Itoa2
import Derived.Shelf.Strconv.Itoa3
import Derived.Shelf.Strconv.AtoiErrFast
import Derived.Shelf.Strconv.ParseIntEmpty
import Derived.Shelf.Strconv.AtoiFail
import Derived.Shelf.Strconv.Clone
import Derived.Shelf.Strconv.SyntaxError
import Derived.Shelf.LaysC
import Derived.Shelf.Strconv.ToError
import Derived.Shelf.Strconv.AtoiErr
import Derived.Shelf.Strconv.ErrVar
import Derived.Shelf.Strconv.Lower
import Derived.Shelf.Strconv.ParseUint10
import Derived.Shelf.Strconv.ParseUint10Empty
import Derived.Shelf.Strconv.ParseUint10Any
import Derived.Shelf.Strconv.ParseInt10
import Derived.Shelf.Strconv.AtoiLong
import Derived.Shelf.Strconv.AtoiInnerAll
import Derived.Shelf.Strconv.RangeError
import Derived.Shelf.Strconv.ToErrorRange
import Derived.Shelf.Strconv.AtoiAll
import Derived.Shelf.Strconv.ErrVarAll
import Derived.Shelf.Strconv.ParseUintEmpty
import Derived.Shelf.Strconv.ParseUint10b64
import Derived.Shelf.Strconv.ParseUint10b32
import Derived.Shelf.Strconv.ParseUint10b16
import Derived.Shelf.Strconv.ParseUint10b8
import Derived.Shelf.Strconv.ParseUint10At
import Derived.Shelf.Strconv.ParseInt10At64
import Derived.Shelf.Strconv.ParseInt10At32
import Derived.Shelf.Strconv.ParseInt10At16
import Derived.Shelf.Strconv.ParseInt10At8
import Derived.Shelf.Strconv.ParseInt10All
import Derived.Shelf.Strconv.ParseIntPublic10
import Derived.Shelf.Strconv.ErrVarParseInt
import Derived.Shelf.Strings.Search1
import Derived.Shelf.Strings.Search2
import Derived.Shelf.Strings.Search3
import Derived.Shelf.Strings.Cut
import Derived.Shelf.Strings.Shaped
import Derived.Shelf.Strings.Prefix
import Derived.Shelf.Unicode.Decode
import Derived.Shelf.Strings.Runes
import Derived.Shelf.Strings.RuneCount
import Derived.Shelf.Strings.AsciiSet
import Derived.Shelf.Unicode.DecodeSlow
import Derived.Shelf.Unicode.DecodeAny
import Derived.Shelf.Unicode.DecodeLast
import Derived.Shelf.Strings.BuilderCap
import Derived.Test.YtjjppmbojcgdgaaGreatDoorProg
set_option linter.unusedVariables false
set_option linter.unusedSimpArgs false
namespace Go.Proofs
open Go.Shelf
def Tryz.laysClone_ren : Go.Shelf.Ren := ⟨fun | 25 => 167 | n => n, fun | 9 => 9 | 3 => 3 | 4 => 4 | 37 => 49 | 0 => 0 | 47 => 335 | 5 => 5 | n => n, fun | n => n⟩
theorem Tryz.laysClone : Go.Proofs.LaysPu.n25 Tryz.prog Tryz.laysClone_ren := {
  mixed := by kernel_rfl
  f25 := Tryz.func167.trans (congrArg some (by kernel_rfl))
  t0 := Tryz.underlying0
  a0 := Tryz.isAgg0
  z0 := Tryz.sizeOf0
  v0 := Tryz.zeroValue0
  i0 := by kernel_rfl
  t3 := Tryz.underlying3
  a3 := Tryz.isAgg3
  z3 := Tryz.sizeOf3
  v3 := Tryz.zeroValue3
  i3 := by kernel_rfl
  t4 := Tryz.underlying4
  a4 := Tryz.isAgg4
  z4 := Tryz.sizeOf4
  v4 := Tryz.zeroValue4
  i4 := by kernel_rfl
  t5 := Tryz.underlying5
  a5 := Tryz.isAgg5
  z5 := Tryz.sizeOf5
  v5 := Tryz.zeroValue5
  i5 := by kernel_rfl
  t9 := Tryz.underlying9
  a9 := Tryz.isAgg9
  z9 := Tryz.sizeOf9
  v9 := Tryz.zeroValue9
  i9 := by kernel_rfl
  t37 := Tryz.underlying49
  a37 := Tryz.isAgg49
  z37 := Tryz.sizeOf49
  v37 := Tryz.zeroValue49
  i37 := by kernel_rfl
  t47 := Tryz.underlying335
  a47 := Tryz.isAgg335
  z47 := Tryz.sizeOf335
  v47 := Tryz.zeroValue335
  i47 := by kernel_rfl }
def Tryz.laysValid_ren : Go.Shelf.Ren := ⟨fun | 196 => 233 | 259 => 270 | n => n, fun | 9 => 9 | 4 => 4 | 3 => 3 | 5 => 5 | 12 => 12 | 119 => 371 | 0 => 0 | 46 => 127 | 139 => 374 | 138 => 373 | 53 => 333 | n => n, fun | 3 => 0 | 4 => 1 | n => n⟩
theorem Tryz.laysValid : Go.Proofs.Lays.n196 Tryz.prog Tryz.laysValid_ren := {
  mixed := by kernel_rfl
  f196 := Tryz.func233.trans (congrArg some (by kernel_rfl))
  f259 := Tryz.func270.trans (congrArg some (by kernel_rfl))
  t0 := Tryz.underlying0
  a0 := Tryz.isAgg0
  z0 := Tryz.sizeOf0
  v0 := Tryz.zeroValue0
  t3 := Tryz.underlying3
  a3 := Tryz.isAgg3
  z3 := Tryz.sizeOf3
  v3 := Tryz.zeroValue3
  t4 := Tryz.underlying4
  a4 := Tryz.isAgg4
  z4 := Tryz.sizeOf4
  v4 := Tryz.zeroValue4
  t5 := Tryz.underlying5
  a5 := Tryz.isAgg5
  z5 := Tryz.sizeOf5
  v5 := Tryz.zeroValue5
  t9 := Tryz.underlying9
  a9 := Tryz.isAgg9
  z9 := Tryz.sizeOf9
  v9 := Tryz.zeroValue9
  t12 := Tryz.underlying12
  a12 := Tryz.isAgg12
  z12 := Tryz.sizeOf12
  v12 := Tryz.zeroValue12
  t46 := Tryz.underlying127
  a46 := Tryz.isAgg127
  z46 := Tryz.sizeOf127
  v46 := Tryz.zeroValue127
  t53 := Tryz.underlying333
  a53 := Tryz.isAgg333
  z53 := Tryz.sizeOf333
  v53 := Tryz.zeroValue333
  t119 := Tryz.underlying371
  a119 := Tryz.isAgg371
  z119 := Tryz.sizeOf371
  t138 := Tryz.underlying373
  a138 := Tryz.isAgg373
  z138 := Tryz.sizeOf373
  v138 := Tryz.zeroValue373
  t139 := Tryz.underlying374
  a139 := Tryz.isAgg374
  z139 := Tryz.sizeOf374
  v139 := Tryz.zeroValue374
  g3 := by kernel_rfl
  g4 := by kernel_rfl }
def Tryz.lays169_ren : Go.Shelf.Ren := ⟨fun | 169 => 159 | n => n, fun | 70 => 254 | 9 => 9 | 0 => 0 | 72 => 256 | 37 => 49 | 127 => 335 | 3 => 3 | 5 => 5 | n => n, fun | n => n⟩
theorem Tryz.lays169 : Go.Proofs.Lays.n169 Tryz.prog Tryz.lays169_ren := {
  mixed := by kernel_rfl
  f169 := Tryz.func159.trans (congrArg some (by kernel_rfl))
  t0 := Tryz.underlying0
  a0 := Tryz.isAgg0
  z0 := Tryz.sizeOf0
  v0 := Tryz.zeroValue0
  t3 := Tryz.underlying3
  a3 := Tryz.isAgg3
  z3 := Tryz.sizeOf3
  v3 := Tryz.zeroValue3
  t9 := Tryz.underlying9
  a9 := Tryz.isAgg9
  z9 := Tryz.sizeOf9
  v9 := Tryz.zeroValue9
  t37 := Tryz.underlying49
  a37 := Tryz.isAgg49
  z37 := Tryz.sizeOf49
  v37 := Tryz.zeroValue49
  t70 := Tryz.underlying254
  a70 := Tryz.isAgg254
  z70 := Tryz.sizeOf254
  v70 := Tryz.zeroValue254
  t72 := Tryz.underlying256
  a72 := Tryz.isAgg256
  z72 := Tryz.sizeOf256
  v72 := Tryz.zeroValue256
  t127 := Tryz.underlying335
  a127 := Tryz.isAgg335
  z127 := Tryz.sizeOf335
  v127 := Tryz.zeroValue335 }
theorem Tryz.Builder_Extra_169 : Builder.Extra Tryz.prog Tryz.lays169_ren := {
  sizeBuilder := by kernel_rfl
  liesBuilder := by kernel_rfl
  t5 := Tryz.underlying5
  a5 := Tryz.isAgg5
  z5 := Tryz.sizeOf5
  v5 := Tryz.zeroValue5
  infoByte := by kernel_rfl
  cellsByte := by kernel_rfl
  sizeByte := by kernel_rfl
  neB5 := by decide }
open Go.RowKit in
def Tryz.lays162_ren : Go.Shelf.Ren := ⟨fun | 162 => 207 | 232 => 258 | 227 => 259 | 234 => 260 | 236 => 261 | 228 => 288 | 271 => 153 | 151 => 289 | 120 => 223 | 197 => 154 | 152 => 306 | 260 => 224 | 137 => 210 | 119 => 319 | 224 => 320 | 225 => 321 | 217 => 262 | 266 => 290 | n => n, fun | 9 => 9 | 4 => 4 | 3 => 3 | 5 => 5 | 117 => 360 | 116 => 359 | 0 => 0 | 124 => 363 | 21 => 21 | 105 => 250 | 46 => 127 | 119 => 371 | 139 => 374 | 138 => 373 | n => n, fun | 3 => 0 | 4 => 1 | n => n⟩
theorem Tryz.lays162 : Go.Proofs.Lays.n162 Tryz.prog Tryz.lays162_ren := {
  mixed := by kernel_rfl
  f119 := Tryz.func319.trans (congrArg some (by kernel_rfl))
  f120 := Tryz.func223.trans (congrArg some (by kernel_rfl))
  f137 := Tryz.func210.trans (congrArg some (by kernel_rfl))
  f151 := Tryz.func289.trans (congrArg some (by kernel_rfl))
  f152 := Tryz.func306.trans (congrArg some (by kernel_rfl))
  f162 := Tryz.func207.trans (congrArg some (by kernel_rfl))
  f197 := Tryz.func154.trans (congrArg some (by kernel_rfl))
  f217 := Tryz.func262.trans (congrArg some (by kernel_rfl))
  f224 := Tryz.func320.trans (congrArg some (by kernel_rfl))
  f225 := Tryz.func321.trans (congrArg some (by kernel_rfl))
  f227 := Tryz.func259.trans (congrArg some (by kernel_rfl))
  f228 := Tryz.func288.trans (congrArg some (by kernel_rfl))
  f232 := Tryz.func258.trans (congrArg some (by kernel_rfl))
  f234 := Tryz.func260.trans (congrArg some (by kernel_rfl))
  f236 := Tryz.func261.trans (congrArg some (by kernel_rfl))
  f260 := Tryz.func224.trans (congrArg some (by kernel_rfl))
  f266 := Tryz.func290.trans (congrArg some (by kernel_rfl))
  f271 := Tryz.func153.trans (congrArg some (by kernel_rfl))
  t0 := Tryz.underlying0
  a0 := Tryz.isAgg0
  z0 := Tryz.sizeOf0
  v0 := Tryz.zeroValue0
  t3 := Tryz.underlying3
  a3 := Tryz.isAgg3
  z3 := Tryz.sizeOf3
  v3 := Tryz.zeroValue3
  t4 := Tryz.underlying4
  a4 := Tryz.isAgg4
  z4 := Tryz.sizeOf4
  v4 := Tryz.zeroValue4
  t5 := Tryz.underlying5
  a5 := Tryz.isAgg5
  z5 := Tryz.sizeOf5
  v5 := Tryz.zeroValue5
  t9 := Tryz.underlying9
  a9 := Tryz.isAgg9
  z9 := Tryz.sizeOf9
  v9 := Tryz.zeroValue9
  t21 := Tryz.underlying21
  a21 := Tryz.isAgg21
  z21 := Tryz.sizeOf21
  v21 := Tryz.zeroValue21
  t46 := Tryz.underlying127
  a46 := Tryz.isAgg127
  z46 := Tryz.sizeOf127
  v46 := Tryz.zeroValue127
  t105 := Tryz.underlying250
  a105 := Tryz.isAgg250
  z105 := Tryz.sizeOf250
  v105 := Tryz.zeroValue250
  t116 := Tryz.underlying359
  a116 := Tryz.isAgg359
  z116 := Tryz.sizeOf359
  t117 := Tryz.underlying360
  a117 := Tryz.isAgg360
  z117 := Tryz.sizeOf360
  v117 := Tryz.zeroValue360
  t119 := Tryz.underlying371
  a119 := Tryz.isAgg371
  z119 := Tryz.sizeOf371
  t124 := Tryz.underlying363
  a124 := Tryz.isAgg363
  z124 := Tryz.sizeOf363
  v124 := Tryz.zeroValue363
  t138 := Tryz.underlying373
  a138 := Tryz.isAgg373
  z138 := Tryz.sizeOf373
  v138 := Tryz.zeroValue373
  t139 := Tryz.underlying374
  a139 := Tryz.isAgg374
  z139 := Tryz.sizeOf374
  v139 := Tryz.zeroValue374
  g3 := by kernel_rfl
  g4 := by kernel_rfl }
open Go.RowKit in

theorem Tryz.strings_TrimRight_one (s : ByteArray) (c : UInt8) (hc : c.toNat < 128) (w : World) (hs : s.size ≤ 9223372036854775807) :
    Calls Tryz.prog 207 #[.string s, .string ⟨#[c]⟩] w fun e w' => e = .returned (.string ⟨(Lib.trimRightB s.data.toList c).toArray⟩) ∧ w' = w := Any.strings_TrimRight_one Tryz.lays162 s c hc w hs
def Tryz.lays160_ren : Go.Shelf.Ren := ⟨fun | 160 => 303 | 232 => 258 | 231 => 285 | 227 => 259 | 234 => 260 | 233 => 286 | 236 => 261 | 235 => 287 | 228 => 288 | 271 => 153 | 151 => 289 | 197 => 154 | 120 => 223 | 152 => 306 | 260 => 224 | 137 => 210 | 119 => 319 | 224 => 320 | 225 => 321 | 217 => 262 | 266 => 290 | n => n, fun | 9 => 9 | 4 => 4 | 3 => 3 | 5 => 5 | 117 => 360 | 116 => 359 | 0 => 0 | 124 => 363 | 21 => 21 | 105 => 250 | 46 => 127 | 119 => 371 | 139 => 374 | 138 => 373 | n => n, fun | 3 => 0 | 4 => 1 | n => n⟩
theorem Tryz.lays160 : Go.Proofs.Lays.n160 Tryz.prog Tryz.lays160_ren := {
  mixed := by kernel_rfl
  f119 := Tryz.func319.trans (congrArg some (by kernel_rfl))
  f120 := Tryz.func223.trans (congrArg some (by kernel_rfl))
  f137 := Tryz.func210.trans (congrArg some (by kernel_rfl))
  f151 := Tryz.func289.trans (congrArg some (by kernel_rfl))
  f152 := Tryz.func306.trans (congrArg some (by kernel_rfl))
  f160 := Tryz.func303.trans (congrArg some (by kernel_rfl))
  f197 := Tryz.func154.trans (congrArg some (by kernel_rfl))
  f217 := Tryz.func262.trans (congrArg some (by kernel_rfl))
  f224 := Tryz.func320.trans (congrArg some (by kernel_rfl))
  f225 := Tryz.func321.trans (congrArg some (by kernel_rfl))
  f227 := Tryz.func259.trans (congrArg some (by kernel_rfl))
  f228 := Tryz.func288.trans (congrArg some (by kernel_rfl))
  f231 := Tryz.func285.trans (congrArg some (by kernel_rfl))
  f232 := Tryz.func258.trans (congrArg some (by kernel_rfl))
  f233 := Tryz.func286.trans (congrArg some (by kernel_rfl))
  f234 := Tryz.func260.trans (congrArg some (by kernel_rfl))
  f235 := Tryz.func287.trans (congrArg some (by kernel_rfl))
  f236 := Tryz.func261.trans (congrArg some (by kernel_rfl))
  f260 := Tryz.func224.trans (congrArg some (by kernel_rfl))
  f266 := Tryz.func290.trans (congrArg some (by kernel_rfl))
  f271 := Tryz.func153.trans (congrArg some (by kernel_rfl))
  t0 := Tryz.underlying0
  a0 := Tryz.isAgg0
  z0 := Tryz.sizeOf0
  v0 := Tryz.zeroValue0
  t3 := Tryz.underlying3
  a3 := Tryz.isAgg3
  z3 := Tryz.sizeOf3
  v3 := Tryz.zeroValue3
  t4 := Tryz.underlying4
  a4 := Tryz.isAgg4
  z4 := Tryz.sizeOf4
  v4 := Tryz.zeroValue4
  t5 := Tryz.underlying5
  a5 := Tryz.isAgg5
  z5 := Tryz.sizeOf5
  v5 := Tryz.zeroValue5
  t9 := Tryz.underlying9
  a9 := Tryz.isAgg9
  z9 := Tryz.sizeOf9
  v9 := Tryz.zeroValue9
  t21 := Tryz.underlying21
  a21 := Tryz.isAgg21
  z21 := Tryz.sizeOf21
  v21 := Tryz.zeroValue21
  t46 := Tryz.underlying127
  a46 := Tryz.isAgg127
  z46 := Tryz.sizeOf127
  v46 := Tryz.zeroValue127
  t105 := Tryz.underlying250
  a105 := Tryz.isAgg250
  z105 := Tryz.sizeOf250
  v105 := Tryz.zeroValue250
  t116 := Tryz.underlying359
  a116 := Tryz.isAgg359
  z116 := Tryz.sizeOf359
  t117 := Tryz.underlying360
  a117 := Tryz.isAgg360
  z117 := Tryz.sizeOf360
  v117 := Tryz.zeroValue360
  t119 := Tryz.underlying371
  a119 := Tryz.isAgg371
  z119 := Tryz.sizeOf371
  t124 := Tryz.underlying363
  a124 := Tryz.isAgg363
  z124 := Tryz.sizeOf363
  v124 := Tryz.zeroValue363
  t138 := Tryz.underlying373
  a138 := Tryz.isAgg373
  z138 := Tryz.sizeOf373
  v138 := Tryz.zeroValue373
  t139 := Tryz.underlying374
  a139 := Tryz.isAgg374
  z139 := Tryz.sizeOf374
  v139 := Tryz.zeroValue374
  g3 := by kernel_rfl
  g4 := by kernel_rfl }
open Go.RowKit in
def Tryz.lays137_ren : Go.Shelf.Ren := ⟨fun | 137 => 210 | 217 => 262 | 266 => 290 | n => n, fun | 9 => 9 | 5 => 5 | 3 => 3 | n => n, fun | n => n⟩
theorem Tryz.lays137 : Go.Proofs.Lays.n137 Tryz.prog Tryz.lays137_ren := {
  mixed := by kernel_rfl
  f137 := Tryz.func210.trans (congrArg some (by kernel_rfl))
  f217 := Tryz.func262.trans (congrArg some (by kernel_rfl))
  f266 := Tryz.func290.trans (congrArg some (by kernel_rfl))
  t3 := Tryz.underlying3
  a3 := Tryz.isAgg3
  z3 := Tryz.sizeOf3
  v3 := Tryz.zeroValue3
  t5 := Tryz.underlying5
  a5 := Tryz.isAgg5
  z5 := Tryz.sizeOf5
  v5 := Tryz.zeroValue5
  t9 := Tryz.underlying9
  a9 := Tryz.isAgg9
  z9 := Tryz.sizeOf9
  v9 := Tryz.zeroValue9 }
open Go.RowKit in

theorem Tryz.strings_IndexByte (s : ByteArray) (c : Int) (w : World) :
    Calls Tryz.prog 210 #[.string s, .int .u8 c] w fun e w' => e = .returned (.int .i64 (Lib.indexByte s.data.toList c.toNat.toUInt8)) ∧ w' = w := Any.strings_IndexByte Tryz.lays137 s c w
def Tryz.lays103_ren : Go.Shelf.Ren := ⟨fun | 103 => 302 | 210 => 315 | 206 => 271 | n => n, fun | 9 => 9 | 4 => 4 | 24 => 139 | 3 => 3 | n => n, fun | n => n⟩
theorem Tryz.lays103 : Go.Proofs.Lays.n103 Tryz.prog Tryz.lays103_ren := {
  mixed := by kernel_rfl
  f103 := Tryz.func302.trans (congrArg some (by kernel_rfl))
  f206 := Tryz.func271.trans (congrArg some (by kernel_rfl))
  f210 := Tryz.func315.trans (congrArg some (by kernel_rfl))
  t3 := Tryz.underlying3
  a3 := Tryz.isAgg3
  z3 := Tryz.sizeOf3
  v3 := Tryz.zeroValue3
  t4 := Tryz.underlying4
  a4 := Tryz.isAgg4
  z4 := Tryz.sizeOf4
  v4 := Tryz.zeroValue4
  t9 := Tryz.underlying9
  a9 := Tryz.isAgg9
  z9 := Tryz.sizeOf9
  v9 := Tryz.zeroValue9
  t24 := Tryz.underlying139
  a24 := Tryz.isAgg139
  z24 := Tryz.sizeOf139
  v24 := Tryz.zeroValue139 }
open Go.RowKit in

theorem Tryz.strings_CutPrefix (s p : ByteArray) (w : World) :
    Calls Tryz.prog 302 #[.string s, .string p] w fun e w' => e = .returned (.tuple #[.string ⟨(Lib.trimPrefix s.data.toList p.data.toList).toArray⟩, .bool (Lib.hasPrefix s.data.toList p.data.toList)]) ∧ w' = w := Any.strings_CutPrefix Tryz.lays103 s p w
open Go.RowKit in
def Tryz.lays195_ren : Go.Shelf.Ren := ⟨fun | 195 => 232 | n => n, fun | 9 => 9 | 3 => 3 | 0 => 0 | 4 => 4 | n => n, fun | n => n⟩
theorem Tryz.lays195 : Go.Proofs.Lays.n195 Tryz.prog Tryz.lays195_ren := {
  mixed := by kernel_rfl
  f195 := Tryz.func232.trans (congrArg some (by kernel_rfl))
  t0 := Tryz.underlying0
  a0 := Tryz.isAgg0
  z0 := Tryz.sizeOf0
  v0 := Tryz.zeroValue0
  t3 := Tryz.underlying3
  a3 := Tryz.isAgg3
  z3 := Tryz.sizeOf3
  v3 := Tryz.zeroValue3
  t4 := Tryz.underlying4
  a4 := Tryz.isAgg4
  z4 := Tryz.sizeOf4
  v4 := Tryz.zeroValue4
  t9 := Tryz.underlying9
  a9 := Tryz.isAgg9
  z9 := Tryz.sizeOf9
  v9 := Tryz.zeroValue9 }
open Go.RowKit in

theorem Tryz.utf8_RuneCountInString (s : ByteArray) (w : World) (hs : s.size < 9223372036854775807) :
    Calls Tryz.prog 232 #[.string s] w fun e w' => e = .returned (.int .i64 (Lib.runeCount s)) ∧ ∃ pos, w' = w.iter s pos := Any.utf8_RuneCountInString Tryz.lays195 s w hs
def Tryz.lays172_ren : Go.Shelf.Ren := ⟨fun | 172 => 312 | 244 => 324 | 245 => 317 | 247 => 316 | 279 => 327 | 280 => 328 | 281 => 329 | 282 => 330 | 287 => 326 | 316 => 167 | 171 => 150 | 205 => 334 | 321 => 332 | 322 => 333 | 243 => 212 | 246 => 263 | 283 => 291 | 284 => 292 | 285 => 293 | 286 => 294 | 129 => 222 | 317 => 307 | 318 => 308 | 319 => 309 | 320 => 310 | 337 => 322 | 338 => 323 | n => n, fun | 9 => 9 | 3 => 3 | 75 => 258 | 76 => 259 | 4 => 4 | 5 => 5 | 167 => 411 | 37 => 49 | 0 => 0 | 85 => 403 | 2 => 2 | 168 => 414 | 53 => 333 | 175 => 412 | 46 => 127 | 210 => 423 | 127 => 335 | 145 => 427 | 143 => 425 | 21 => 21 | 171 => 392 | 173 => 394 | 212 => 406 | 51 => 331 | 20 => 20 | 213 => 407 | 232 => 417 | 233 => 418 | 80 => 87 | n => n, fun | 15 => 6 | 16 => 7 | 17 => 3 | 18 => 4 | 19 => 5 | n => n⟩
theorem Tryz.lays172 : Go.Proofs.Lays.n172 Tryz.prog Tryz.lays172_ren := {
  mixed := by kernel_rfl
  f129 := Tryz.func222.trans (congrArg some (by kernel_rfl))
  f171 := Tryz.func150.trans (congrArg some (by kernel_rfl))
  f172 := Tryz.func312.trans (congrArg some (by kernel_rfl))
  f205 := Tryz.func334.trans (congrArg some (by kernel_rfl))
  f243 := Tryz.func212.trans (congrArg some (by kernel_rfl))
  f244 := Tryz.func324.trans (congrArg some (by kernel_rfl))
  f245 := Tryz.func317.trans (congrArg some (by kernel_rfl))
  f246 := Tryz.func263.trans (congrArg some (by kernel_rfl))
  f247 := Tryz.func316.trans (congrArg some (by kernel_rfl))
  f279 := Tryz.func327.trans (congrArg some (by kernel_rfl))
  f280 := Tryz.func328.trans (congrArg some (by kernel_rfl))
  f281 := Tryz.func329.trans (congrArg some (by kernel_rfl))
  f282 := Tryz.func330.trans (congrArg some (by kernel_rfl))
  f283 := Tryz.func291.trans (congrArg some (by kernel_rfl))
  f284 := Tryz.func292.trans (congrArg some (by kernel_rfl))
  f285 := Tryz.func293.trans (congrArg some (by kernel_rfl))
  f286 := Tryz.func294.trans (congrArg some (by kernel_rfl))
  f287 := Tryz.func326.trans (congrArg some (by kernel_rfl))
  f316 := Tryz.func167.trans (congrArg some (by kernel_rfl))
  f317 := Tryz.func307.trans (congrArg some (by kernel_rfl))
  f318 := Tryz.func308.trans (congrArg some (by kernel_rfl))
  f319 := Tryz.func309.trans (congrArg some (by kernel_rfl))
  f320 := Tryz.func310.trans (congrArg some (by kernel_rfl))
  f321 := Tryz.func332.trans (congrArg some (by kernel_rfl))
  f322 := Tryz.func333.trans (congrArg some (by kernel_rfl))
  f337 := Tryz.func322.trans (congrArg some (by kernel_rfl))
  f338 := Tryz.func323.trans (congrArg some (by kernel_rfl))
  t0 := Tryz.underlying0
  a0 := Tryz.isAgg0
  z0 := Tryz.sizeOf0
  v0 := Tryz.zeroValue0
  t2 := Tryz.underlying2
  a2 := Tryz.isAgg2
  z2 := Tryz.sizeOf2
  v2 := Tryz.zeroValue2
  t3 := Tryz.underlying3
  a3 := Tryz.isAgg3
  z3 := Tryz.sizeOf3
  v3 := Tryz.zeroValue3
  t4 := Tryz.underlying4
  a4 := Tryz.isAgg4
  z4 := Tryz.sizeOf4
  v4 := Tryz.zeroValue4
  t5 := Tryz.underlying5
  a5 := Tryz.isAgg5
  z5 := Tryz.sizeOf5
  v5 := Tryz.zeroValue5
  t9 := Tryz.underlying9
  a9 := Tryz.isAgg9
  z9 := Tryz.sizeOf9
  v9 := Tryz.zeroValue9
  t20 := Tryz.underlying20
  a20 := Tryz.isAgg20
  z20 := Tryz.sizeOf20
  v20 := Tryz.zeroValue20
  t21 := Tryz.underlying21
  a21 := Tryz.isAgg21
  z21 := Tryz.sizeOf21
  v21 := Tryz.zeroValue21
  t37 := Tryz.underlying49
  a37 := Tryz.isAgg49
  z37 := Tryz.sizeOf49
  v37 := Tryz.zeroValue49
  t46 := Tryz.underlying127
  a46 := Tryz.isAgg127
  z46 := Tryz.sizeOf127
  v46 := Tryz.zeroValue127
  t51 := Tryz.underlying331
  a51 := Tryz.isAgg331
  z51 := Tryz.sizeOf331
  v51 := Tryz.zeroValue331
  t53 := Tryz.underlying333
  a53 := Tryz.isAgg333
  z53 := Tryz.sizeOf333
  v53 := Tryz.zeroValue333
  t75 := Tryz.underlying258
  a75 := Tryz.isAgg258
  z75 := Tryz.sizeOf258
  v75 := Tryz.zeroValue258
  t76 := Tryz.underlying259
  a76 := Tryz.isAgg259
  z76 := Tryz.sizeOf259
  v76 := Tryz.zeroValue259
  t85 := Tryz.underlying403
  a85 := Tryz.isAgg403
  z85 := Tryz.sizeOf403
  v85 := Tryz.zeroValue403
  t127 := Tryz.underlying335
  a127 := Tryz.isAgg335
  z127 := Tryz.sizeOf335
  v127 := Tryz.zeroValue335
  t143 := Tryz.underlying425
  a143 := Tryz.isAgg425
  z143 := Tryz.sizeOf425
  v143 := Tryz.zeroValue425
  t145 := Tryz.underlying427
  a145 := Tryz.isAgg427
  z145 := Tryz.sizeOf427
  v145 := Tryz.zeroValue427
  t167 := Tryz.underlying411
  a167 := Tryz.isAgg411
  z167 := Tryz.sizeOf411
  v167 := Tryz.zeroValue411
  t168 := Tryz.underlying414
  a168 := Tryz.isAgg414
  z168 := Tryz.sizeOf414
  v168 := Tryz.zeroValue414
  t171 := Tryz.underlying392
  a171 := Tryz.isAgg392
  z171 := Tryz.sizeOf392
  v171 := Tryz.zeroValue392
  t173 := Tryz.underlying394
  a173 := Tryz.isAgg394
  z173 := Tryz.sizeOf394
  v173 := Tryz.zeroValue394
  t175 := Tryz.underlying412
  a175 := Tryz.isAgg412
  z175 := Tryz.sizeOf412
  v175 := Tryz.zeroValue412
  t210 := Tryz.underlying423
  a210 := Tryz.isAgg423
  z210 := Tryz.sizeOf423
  v210 := Tryz.zeroValue423
  t212 := Tryz.underlying406
  a212 := Tryz.isAgg406
  z212 := Tryz.sizeOf406
  v212 := Tryz.zeroValue406
  t213 := Tryz.underlying407
  a213 := Tryz.isAgg407
  z213 := Tryz.sizeOf407
  t232 := Tryz.underlying417
  a232 := Tryz.isAgg417
  z232 := Tryz.sizeOf417
  v232 := Tryz.zeroValue417
  t233 := Tryz.underlying418
  a233 := Tryz.isAgg418
  z233 := Tryz.sizeOf418
  v233 := Tryz.zeroValue418
  g15 := by kernel_rfl
  g16 := by kernel_rfl
  g17 := by kernel_rfl
  g18 := by kernel_rfl
  g19 := by kernel_rfl }
open Go.RowKit in

theorem Tryz.strconv_Atoi (s : ByteArray) (n : Int) (hl : s.size ≤ 18) (h : Lib.atoi s.data.toList = some n) (w : World) :
    Calls Tryz.prog 312 #[.string s] w fun e w' => e = .returned (.tuple #[.int .i64 n, .nilIface]) ∧ ∃ t, w' = Lib.bytesWorld w 5 t := Any.strconv_Atoi Tryz.lays172 s n hl h w
def Tryz.lays144_ren : Go.Shelf.Ren := ⟨fun | 144 => 296 | 143 => 311 | 219 => 313 | 217 => 262 | 225 => 321 | 224 => 320 | 267 => 325 | 266 => 290 | 314 => 331 | n => n, fun | 9 => 9 | 4 => 4 | 3 => 3 | 5 => 5 | 46 => 127 | 146 => 419 | 51 => 331 | n => n, fun | 1 => 2 | n => n⟩
theorem Tryz.lays144 : Go.Proofs.Lays.n144 Tryz.prog Tryz.lays144_ren := {
  mixed := by kernel_rfl
  f143 := Tryz.func311.trans (congrArg some (by kernel_rfl))
  f144 := Tryz.func296.trans (congrArg some (by kernel_rfl))
  f217 := Tryz.func262.trans (congrArg some (by kernel_rfl))
  f219 := Tryz.func313.trans (congrArg some (by kernel_rfl))
  f224 := Tryz.func320.trans (congrArg some (by kernel_rfl))
  f225 := Tryz.func321.trans (congrArg some (by kernel_rfl))
  f266 := Tryz.func290.trans (congrArg some (by kernel_rfl))
  f267 := Tryz.func325.trans (congrArg some (by kernel_rfl))
  f314 := Tryz.func331.trans (congrArg some (by kernel_rfl))
  t3 := Tryz.underlying3
  a3 := Tryz.isAgg3
  z3 := Tryz.sizeOf3
  v3 := Tryz.zeroValue3
  t4 := Tryz.underlying4
  a4 := Tryz.isAgg4
  z4 := Tryz.sizeOf4
  v4 := Tryz.zeroValue4
  t5 := Tryz.underlying5
  a5 := Tryz.isAgg5
  z5 := Tryz.sizeOf5
  v5 := Tryz.zeroValue5
  t9 := Tryz.underlying9
  a9 := Tryz.isAgg9
  z9 := Tryz.sizeOf9
  v9 := Tryz.zeroValue9
  t46 := Tryz.underlying127
  a46 := Tryz.isAgg127
  z46 := Tryz.sizeOf127
  v46 := Tryz.zeroValue127
  t51 := Tryz.underlying331
  a51 := Tryz.isAgg331
  z51 := Tryz.sizeOf331
  v51 := Tryz.zeroValue331
  t146 := Tryz.underlying419
  a146 := Tryz.isAgg419
  z146 := Tryz.sizeOf419
  v146 := Tryz.zeroValue419
  g1 := by kernel_rfl }
open Go.RowKit Go.Lib in

theorem Tryz.strings_Contains (s sub : ByteArray) (m : Int) (w : World) (hs : s.size < 4294967281) (hm : w.cell? ⟨2, 0, none⟩ = some (.int .i64 m)) :
    Calls Tryz.prog 296 #[.string s, .string sub] w fun e w' => e = .returned (.bool (Lib.contains s.data.toList sub.data.toList)) ∧ w' = w := Any.strings_Contains Tryz.lays144 s sub m w hs hm
def Tryz.lays145_ren : Go.Shelf.Ren := ⟨fun | 145 => 275 | 220 => 299 | 219 => 313 | 217 => 262 | 225 => 321 | 224 => 320 | 267 => 325 | 266 => 290 | 314 => 331 | n => n, fun | 9 => 9 | 4 => 4 | 59 => 381 | 3 => 3 | 5 => 5 | 46 => 127 | 146 => 419 | 51 => 331 | n => n, fun | 1 => 2 | n => n⟩
theorem Tryz.lays145 : Go.Proofs.Lays.n145 Tryz.prog Tryz.lays145_ren := {
  mixed := by kernel_rfl
  f145 := Tryz.func275.trans (congrArg some (by kernel_rfl))
  f217 := Tryz.func262.trans (congrArg some (by kernel_rfl))
  f219 := Tryz.func313.trans (congrArg some (by kernel_rfl))
  f220 := Tryz.func299.trans (congrArg some (by kernel_rfl))
  f224 := Tryz.func320.trans (congrArg some (by kernel_rfl))
  f225 := Tryz.func321.trans (congrArg some (by kernel_rfl))
  f266 := Tryz.func290.trans (congrArg some (by kernel_rfl))
  f267 := Tryz.func325.trans (congrArg some (by kernel_rfl))
  f314 := Tryz.func331.trans (congrArg some (by kernel_rfl))
  t3 := Tryz.underlying3
  a3 := Tryz.isAgg3
  z3 := Tryz.sizeOf3
  v3 := Tryz.zeroValue3
  t4 := Tryz.underlying4
  a4 := Tryz.isAgg4
  z4 := Tryz.sizeOf4
  v4 := Tryz.zeroValue4
  t5 := Tryz.underlying5
  a5 := Tryz.isAgg5
  z5 := Tryz.sizeOf5
  v5 := Tryz.zeroValue5
  t9 := Tryz.underlying9
  a9 := Tryz.isAgg9
  z9 := Tryz.sizeOf9
  v9 := Tryz.zeroValue9
  t46 := Tryz.underlying127
  a46 := Tryz.isAgg127
  z46 := Tryz.sizeOf127
  v46 := Tryz.zeroValue127
  t51 := Tryz.underlying331
  a51 := Tryz.isAgg331
  z51 := Tryz.sizeOf331
  v51 := Tryz.zeroValue331
  t59 := Tryz.underlying381
  a59 := Tryz.isAgg381
  z59 := Tryz.sizeOf381
  v59 := Tryz.zeroValue381
  t146 := Tryz.underlying419
  a146 := Tryz.isAgg419
  z146 := Tryz.sizeOf419
  v146 := Tryz.zeroValue419
  g1 := by kernel_rfl }
open Go.RowKit Go.Lib in

theorem Tryz.strings_Cut (s sep : ByteArray) (m : Int) (w : World) (hs : s.size < 4294967281) (hm : w.cell? ⟨2, 0, none⟩ = some (.int .i64 m)) :
    Calls Tryz.prog 275 #[.string s, .string sep] w fun e w' => e = .returned (.tuple #[.string ⟨(Lib.cut s.data.toList sep.data.toList).1.toArray⟩, .string ⟨(Lib.cut s.data.toList sep.data.toList).2.1.toArray⟩, .bool (Lib.cut s.data.toList sep.data.toList).2.2]) ∧ ∃ n, w' = w.drewN n := Any.strings_Cut Tryz.lays145 s sep m w hs hm
def Tryz.lays99_ren : Go.Shelf.Ren := ⟨fun | 99 => 234 | 206 => 271 | n => n, fun | 9 => 9 | 4 => 4 | 3 => 3 | n => n, fun | n => n⟩
theorem Tryz.lays99 : Go.Proofs.Lays.n99 Tryz.prog Tryz.lays99_ren := {
  mixed := by kernel_rfl
  f99 := Tryz.func234.trans (congrArg some (by kernel_rfl))
  f206 := Tryz.func271.trans (congrArg some (by kernel_rfl))
  t3 := Tryz.underlying3
  a3 := Tryz.isAgg3
  z3 := Tryz.sizeOf3
  v3 := Tryz.zeroValue3
  t4 := Tryz.underlying4
  a4 := Tryz.isAgg4
  z4 := Tryz.sizeOf4
  v4 := Tryz.zeroValue4
  t9 := Tryz.underlying9
  a9 := Tryz.isAgg9
  z9 := Tryz.sizeOf9
  v9 := Tryz.zeroValue9 }
open Go.RowKit Go.Lib in

theorem Tryz.strings_HasPrefix (s p : ByteArray) (w : World) :
    Calls Tryz.prog 234 #[.string s, .string p] w fun e w' => e = .returned (.bool (Lib.hasPrefix s.data.toList p.data.toList)) ∧ w' = w := Any.strings_HasPrefix Tryz.lays99 s p w
def Tryz.lays197_ren : Go.Shelf.Ren := ⟨fun | 197 => 154 | 260 => 224 | n => n, fun | 9 => 9 | 21 => 21 | 3 => 3 | 4 => 4 | 5 => 5 | 105 => 250 | 119 => 371 | 0 => 0 | 46 => 127 | 139 => 374 | 138 => 373 | n => n, fun | 3 => 0 | 4 => 1 | n => n⟩
theorem Tryz.lays197 : Go.Proofs.Lays.n197 Tryz.prog Tryz.lays197_ren := {
  mixed := by kernel_rfl
  f197 := Tryz.func154.trans (congrArg some (by kernel_rfl))
  f260 := Tryz.func224.trans (congrArg some (by kernel_rfl))
  t0 := Tryz.underlying0
  a0 := Tryz.isAgg0
  z0 := Tryz.sizeOf0
  v0 := Tryz.zeroValue0
  t3 := Tryz.underlying3
  a3 := Tryz.isAgg3
  z3 := Tryz.sizeOf3
  v3 := Tryz.zeroValue3
  t4 := Tryz.underlying4
  a4 := Tryz.isAgg4
  z4 := Tryz.sizeOf4
  v4 := Tryz.zeroValue4
  t5 := Tryz.underlying5
  a5 := Tryz.isAgg5
  z5 := Tryz.sizeOf5
  v5 := Tryz.zeroValue5
  t9 := Tryz.underlying9
  a9 := Tryz.isAgg9
  z9 := Tryz.sizeOf9
  v9 := Tryz.zeroValue9
  t21 := Tryz.underlying21
  a21 := Tryz.isAgg21
  z21 := Tryz.sizeOf21
  v21 := Tryz.zeroValue21
  t46 := Tryz.underlying127
  a46 := Tryz.isAgg127
  z46 := Tryz.sizeOf127
  v46 := Tryz.zeroValue127
  t105 := Tryz.underlying250
  a105 := Tryz.isAgg250
  z105 := Tryz.sizeOf250
  v105 := Tryz.zeroValue250
  t119 := Tryz.underlying371
  a119 := Tryz.isAgg371
  z119 := Tryz.sizeOf371
  t138 := Tryz.underlying373
  a138 := Tryz.isAgg373
  z138 := Tryz.sizeOf373
  v138 := Tryz.zeroValue373
  t139 := Tryz.underlying374
  a139 := Tryz.isAgg374
  z139 := Tryz.sizeOf374
  v139 := Tryz.zeroValue374
  g3 := by kernel_rfl
  g4 := by kernel_rfl }
open Go.RowKit Go.Lib in

theorem Tryz.utf8_DecodeRuneInString (s : ByteArray) (w : World) (hT : Lib.Utf8Tabs 0 1 w) :
    Calls Tryz.prog 154 #[.string s] w fun e w' => e = .returned (.tuple #[.int .i32 (Lib.decodeGo s).1, .int .i64 (Lib.decodeGo s).2]) ∧ Below w.heap.size w w' := Any.utf8_DecodeRuneInString Tryz.lays197 s w hT
end Go.Proofs
