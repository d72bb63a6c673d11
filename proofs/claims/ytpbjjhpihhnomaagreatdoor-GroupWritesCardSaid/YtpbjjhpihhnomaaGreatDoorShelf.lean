/-
  DERIVED: THE SHELF's CONTRACTS AT THIS DUMP, IN PLAIN WORDS (tools/lay-plain.mjs out of 'TryzShelf.lean', which tools/lay-shelf.mjs wrote): THE SAME DECLARATIONS UNDER THE SAME NAMES: 'import', 'namespace', 'open', 'def', 'theorem' AND NOTHING ELSE: no command of the shelf's: FOR A HAND-IN. Each laying: the table of numbers ('.._ren') and one theorem, a field a fact of the dump's own or the kernel's comparison; each contract: ONE APPLICATION.
-/
import Derived.Shelf.Pu.Clone
import Derived.Shelf.Unicode.ValidAny
import Derived.Shelf.Strings.SlTrimAscii
import Derived.Shelf.Strings.Builder1
import Derived.Shelf.Strings.Builder2
import Derived.Shelf.Strings.Trim
import Derived.Shelf.Small.Utf8
import Derived.Shelf.Small.Bits
import Derived.Shelf.Small.Strs
import Derived.Shelf.Small.Wraps
import Derived.Shelf.Strings.BuilderF
import Derived.Shelf.Strings.BuilderK
import Derived.Shelf.Utf8.RuneCount
import Derived.Shelf.Strings.Builder2Cap
import Derived.Shelf.Strconv.Atoi
import Derived.Shelf.Strconv.Itoa0
import Derived.Shelf.Strconv.Itoa1
import Derived.Shelf.LaysM
import Derived.Shelf.Strconv.Itoa2
import Derived.Shelf.Strconv.Itoa3
import Derived.Shelf.Strconv.AtoiErrFast
import Derived.Shelf.Strconv.ParseIntEmpty
import Derived.Shelf.Strconv.AtoiFail
import Derived.Shelf.Strconv.Clone
import Derived.Shelf.Strconv.SyntaxError
import Derived.Shelf.LaysC
import Derived.Shelf.Strconv.ToError
import Derived.Shelf.Strconv.AtoiErr
import Derived.Shelf.Strconv.ErrVar
import Derived.Shelf.Strconv.Lower
import Derived.Shelf.Strconv.ParseUint10
import Derived.Shelf.Strconv.ParseUint10Empty
import Derived.Shelf.Strconv.ParseUint10Any
import Derived.Shelf.Strconv.ParseInt10
import Derived.Shelf.Strconv.AtoiLong
import Derived.Shelf.Strconv.AtoiInnerAll
import Derived.Shelf.Strconv.RangeError
import Derived.Shelf.Strconv.ToErrorRange
import Derived.Shelf.Strconv.AtoiAll
import Derived.Shelf.Strconv.ErrVarAll
import Derived.Shelf.Strconv.ParseUintEmpty
import Derived.Shelf.Strconv.ParseUint10b64
import Derived.Shelf.Strconv.ParseUint10b32
import Derived.Shelf.Strconv.ParseUint10b16
import Derived.Shelf.Strconv.ParseUint10b8
import Derived.Shelf.Strconv.ParseUint10At
import Derived.Shelf.Strconv.ParseInt10At64
import Derived.Shelf.Strconv.ParseInt10At32
import Derived.Shelf.Strconv.ParseInt10At16
import Derived.Shelf.Strconv.ParseInt10At8
import Derived.Shelf.Strconv.ParseInt10All
import Derived.Shelf.Strconv.ParseIntPublic10
import Derived.Shelf.Strconv.ErrVarParseInt
import Derived.Shelf.Strings.Search1
import Derived.Shelf.Strings.Search2
import Derived.Shelf.Strings.Search3
import Derived.Shelf.Strings.Cut
import Derived.Shelf.Strings.Shaped
import Derived.Shelf.Strings.Prefix
import Derived.Shelf.Unicode.Decode
import Derived.Shelf.Strings.Runes
import Derived.Shelf.Strings.RuneCount
import Derived.Shelf.Strings.AsciiSet
import Derived.Shelf.Bits.Mul64
import Derived.Shelf.Strings.Repeat
import Derived.Shelf.Unicode.DecodeSlow
import Derived.Shelf.Unicode.DecodeAny
import Derived.Shelf.Unicode.DecodeLast
import Derived.Shelf.Strings.BuilderCap
import Derived.Test.YtpbjjhpihhnomaaGreatDoorProg
set_option linter.unusedVariables false
set_option linter.unusedSimpArgs false
namespace Go.Proofs
open Go.Shelf
def Tryz.laysClone_ren : Go.Shelf.Ren := ⟨fun | 25 => 167 | n => n, fun | 9 => 9 | 3 => 3 | 4 => 4 | 37 => 22 | 0 => 0 | 47 => 262 | 5 => 5 | n => n, fun | n => n⟩
theorem Tryz.laysClone : Go.Proofs.LaysPu.n25 Tryz.prog Tryz.laysClone_ren := {
  mixed := by kernel_rfl
  f25 := Tryz.func167.trans (congrArg some (by kernel_rfl))
  t0 := Tryz.underlying0
  a0 := Tryz.isAgg0
  z0 := Tryz.sizeOf0
  v0 := Tryz.zeroValue0
  i0 := by kernel_rfl
  t3 := Tryz.underlying3
  a3 := Tryz.isAgg3
  z3 := Tryz.sizeOf3
  v3 := Tryz.zeroValue3
  i3 := by kernel_rfl
  t4 := Tryz.underlying4
  a4 := Tryz.isAgg4
  z4 := Tryz.sizeOf4
  v4 := Tryz.zeroValue4
  i4 := by kernel_rfl
  t5 := Tryz.underlying5
  a5 := Tryz.isAgg5
  z5 := Tryz.sizeOf5
  v5 := Tryz.zeroValue5
  i5 := by kernel_rfl
  t9 := Tryz.underlying9
  a9 := Tryz.isAgg9
  z9 := Tryz.sizeOf9
  v9 := Tryz.zeroValue9
  i9 := by kernel_rfl
  t37 := Tryz.underlying22
  a37 := Tryz.isAgg22
  z37 := Tryz.sizeOf22
  v37 := Tryz.zeroValue22
  i37 := by kernel_rfl
  t47 := Tryz.underlying262
  a47 := Tryz.isAgg262
  z47 := Tryz.sizeOf262
  v47 := Tryz.zeroValue262
  i47 := by kernel_rfl }
def Tryz.laysValid_ren : Go.Shelf.Ren := ⟨fun | 196 => 200 | 259 => 246 | n => n, fun | 9 => 9 | 4 => 4 | 3 => 3 | 5 => 5 | 12 => 12 | 119 => 358 | 0 => 0 | 46 => 64 | 139 => 361 | 138 => 360 | 53 => 338 | n => n, fun | 3 => 0 | 4 => 1 | n => n⟩
theorem Tryz.laysValid : Go.Proofs.Lays.n196 Tryz.prog Tryz.laysValid_ren := {
  mixed := by kernel_rfl
  f196 := Tryz.func200.trans (congrArg some (by kernel_rfl))
  f259 := Tryz.func246.trans (congrArg some (by kernel_rfl))
  t0 := Tryz.underlying0
  a0 := Tryz.isAgg0
  z0 := Tryz.sizeOf0
  v0 := Tryz.zeroValue0
  t3 := Tryz.underlying3
  a3 := Tryz.isAgg3
  z3 := Tryz.sizeOf3
  v3 := Tryz.zeroValue3
  t4 := Tryz.underlying4
  a4 := Tryz.isAgg4
  z4 := Tryz.sizeOf4
  v4 := Tryz.zeroValue4
  t5 := Tryz.underlying5
  a5 := Tryz.isAgg5
  z5 := Tryz.sizeOf5
  v5 := Tryz.zeroValue5
  t9 := Tryz.underlying9
  a9 := Tryz.isAgg9
  z9 := Tryz.sizeOf9
  v9 := Tryz.zeroValue9
  t12 := Tryz.underlying12
  a12 := Tryz.isAgg12
  z12 := Tryz.sizeOf12
  v12 := Tryz.zeroValue12
  t46 := Tryz.underlying64
  a46 := Tryz.isAgg64
  z46 := Tryz.sizeOf64
  v46 := Tryz.zeroValue64
  t53 := Tryz.underlying338
  a53 := Tryz.isAgg338
  z53 := Tryz.sizeOf338
  v53 := Tryz.zeroValue338
  t119 := Tryz.underlying358
  a119 := Tryz.isAgg358
  z119 := Tryz.sizeOf358
  t138 := Tryz.underlying360
  a138 := Tryz.isAgg360
  z138 := Tryz.sizeOf360
  v138 := Tryz.zeroValue360
  t139 := Tryz.underlying361
  a139 := Tryz.isAgg361
  z139 := Tryz.sizeOf361
  v139 := Tryz.zeroValue361
  g3 := by kernel_rfl
  g4 := by kernel_rfl }
def Tryz.lays169_ren : Go.Shelf.Ren := ⟨fun | 169 => 66 | n => n, fun | 70 => 145 | 9 => 9 | 0 => 0 | 72 => 147 | 37 => 22 | 127 => 262 | 3 => 3 | 5 => 5 | n => n, fun | n => n⟩
theorem Tryz.lays169 : Go.Proofs.Lays.n169 Tryz.prog Tryz.lays169_ren := {
  mixed := by kernel_rfl
  f169 := Tryz.func66.trans (congrArg some (by kernel_rfl))
  t0 := Tryz.underlying0
  a0 := Tryz.isAgg0
  z0 := Tryz.sizeOf0
  v0 := Tryz.zeroValue0
  t3 := Tryz.underlying3
  a3 := Tryz.isAgg3
  z3 := Tryz.sizeOf3
  v3 := Tryz.zeroValue3
  t9 := Tryz.underlying9
  a9 := Tryz.isAgg9
  z9 := Tryz.sizeOf9
  v9 := Tryz.zeroValue9
  t37 := Tryz.underlying22
  a37 := Tryz.isAgg22
  z37 := Tryz.sizeOf22
  v37 := Tryz.zeroValue22
  t70 := Tryz.underlying145
  a70 := Tryz.isAgg145
  z70 := Tryz.sizeOf145
  v70 := Tryz.zeroValue145
  t72 := Tryz.underlying147
  a72 := Tryz.isAgg147
  z72 := Tryz.sizeOf147
  v72 := Tryz.zeroValue147
  t127 := Tryz.underlying262
  a127 := Tryz.isAgg262
  z127 := Tryz.sizeOf262
  v127 := Tryz.zeroValue262 }
theorem Tryz.Builder_Extra_169 : Builder.Extra Tryz.prog Tryz.lays169_ren := {
  sizeBuilder := by kernel_rfl
  liesBuilder := by kernel_rfl
  t5 := Tryz.underlying5
  a5 := Tryz.isAgg5
  z5 := Tryz.sizeOf5
  v5 := Tryz.zeroValue5
  infoByte := by kernel_rfl
  cellsByte := by kernel_rfl
  sizeByte := by kernel_rfl
  neB5 := by decide }
open Go.RowKit in
def Tryz.lays162_ren : Go.Shelf.Ren := ⟨fun | 162 => 265 | 232 => 284 | 227 => 253 | 234 => 285 | 236 => 286 | 228 => 277 | 271 => 157 | 151 => 278 | 120 => 218 | 197 => 158 | 152 => 302 | 260 => 219 | 137 => 288 | 119 => 312 | 224 => 313 | 225 => 314 | 217 => 306 | 266 => 317 | n => n, fun | 9 => 9 | 4 => 4 | 3 => 3 | 5 => 5 | 117 => 369 | 116 => 368 | 0 => 0 | 124 => 372 | 21 => 21 | 105 => 268 | 46 => 64 | 119 => 358 | 139 => 361 | 138 => 360 | n => n, fun | 3 => 0 | 4 => 1 | n => n⟩
theorem Tryz.lays162 : Go.Proofs.Lays.n162 Tryz.prog Tryz.lays162_ren := {
  mixed := by kernel_rfl
  f119 := Tryz.func312.trans (congrArg some (by kernel_rfl))
  f120 := Tryz.func218.trans (congrArg some (by kernel_rfl))
  f137 := Tryz.func288.trans (congrArg some (by kernel_rfl))
  f151 := Tryz.func278.trans (congrArg some (by kernel_rfl))
  f152 := Tryz.func302.trans (congrArg some (by kernel_rfl))
  f162 := Tryz.func265.trans (congrArg some (by kernel_rfl))
  f197 := Tryz.func158.trans (congrArg some (by kernel_rfl))
  f217 := Tryz.func306.trans (congrArg some (by kernel_rfl))
  f224 := Tryz.func313.trans (congrArg some (by kernel_rfl))
  f225 := Tryz.func314.trans (congrArg some (by kernel_rfl))
  f227 := Tryz.func253.trans (congrArg some (by kernel_rfl))
  f228 := Tryz.func277.trans (congrArg some (by kernel_rfl))
  f232 := Tryz.func284.trans (congrArg some (by kernel_rfl))
  f234 := Tryz.func285.trans (congrArg some (by kernel_rfl))
  f236 := Tryz.func286.trans (congrArg some (by kernel_rfl))
  f260 := Tryz.func219.trans (congrArg some (by kernel_rfl))
  f266 := Tryz.func317.trans (congrArg some (by kernel_rfl))
  f271 := Tryz.func157.trans (congrArg some (by kernel_rfl))
  t0 := Tryz.underlying0
  a0 := Tryz.isAgg0
  z0 := Tryz.sizeOf0
  v0 := Tryz.zeroValue0
  t3 := Tryz.underlying3
  a3 := Tryz.isAgg3
  z3 := Tryz.sizeOf3
  v3 := Tryz.zeroValue3
  t4 := Tryz.underlying4
  a4 := Tryz.isAgg4
  z4 := Tryz.sizeOf4
  v4 := Tryz.zeroValue4
  t5 := Tryz.underlying5
  a5 := Tryz.isAgg5
  z5 := Tryz.sizeOf5
  v5 := Tryz.zeroValue5
  t9 := Tryz.underlying9
  a9 := Tryz.isAgg9
  z9 := Tryz.sizeOf9
  v9 := Tryz.zeroValue9
  t21 := Tryz.underlying21
  a21 := Tryz.isAgg21
  z21 := Tryz.sizeOf21
  v21 := Tryz.zeroValue21
  t46 := Tryz.underlying64
  a46 := Tryz.isAgg64
  z46 := Tryz.sizeOf64
  v46 := Tryz.zeroValue64
  t105 := Tryz.underlying268
  a105 := Tryz.isAgg268
  z105 := Tryz.sizeOf268
  v105 := Tryz.zeroValue268
  t116 := Tryz.underlying368
  a116 := Tryz.isAgg368
  z116 := Tryz.sizeOf368
  t117 := Tryz.underlying369
  a117 := Tryz.isAgg369
  z117 := Tryz.sizeOf369
  v117 := Tryz.zeroValue369
  t119 := Tryz.underlying358
  a119 := Tryz.isAgg358
  z119 := Tryz.sizeOf358
  t124 := Tryz.underlying372
  a124 := Tryz.isAgg372
  z124 := Tryz.sizeOf372
  v124 := Tryz.zeroValue372
  t138 := Tryz.underlying360
  a138 := Tryz.isAgg360
  z138 := Tryz.sizeOf360
  v138 := Tryz.zeroValue360
  t139 := Tryz.underlying361
  a139 := Tryz.isAgg361
  z139 := Tryz.sizeOf361
  v139 := Tryz.zeroValue361
  g3 := by kernel_rfl
  g4 := by kernel_rfl }
open Go.RowKit in

theorem Tryz.strings_TrimRight_one (s : ByteArray) (c : UInt8) (hc : c.toNat < 128) (w : World) (hs : s.size ≤ 9223372036854775807) :
    Calls Tryz.prog 265 #[.string s, .string ⟨#[c]⟩] w fun e w' => e = .returned (.string ⟨(Lib.trimRightB s.data.toList c).toArray⟩) ∧ w' = w := Any.strings_TrimRight_one Tryz.lays162 s c hc w hs
def Tryz.lays160_ren : Go.Shelf.Ren := ⟨fun | 160 => 291 | 232 => 284 | 231 => 252 | 227 => 253 | 234 => 285 | 233 => 254 | 236 => 286 | 235 => 255 | 228 => 277 | 271 => 157 | 151 => 278 | 197 => 158 | 120 => 218 | 152 => 302 | 260 => 219 | 137 => 288 | 119 => 312 | 224 => 313 | 225 => 314 | 217 => 306 | 266 => 317 | n => n, fun | 9 => 9 | 4 => 4 | 3 => 3 | 5 => 5 | 117 => 369 | 116 => 368 | 0 => 0 | 124 => 372 | 21 => 21 | 105 => 268 | 46 => 64 | 119 => 358 | 139 => 361 | 138 => 360 | n => n, fun | 3 => 0 | 4 => 1 | n => n⟩
theorem Tryz.lays160 : Go.Proofs.Lays.n160 Tryz.prog Tryz.lays160_ren := {
  mixed := by kernel_rfl
  f119 := Tryz.func312.trans (congrArg some (by kernel_rfl))
  f120 := Tryz.func218.trans (congrArg some (by kernel_rfl))
  f137 := Tryz.func288.trans (congrArg some (by kernel_rfl))
  f151 := Tryz.func278.trans (congrArg some (by kernel_rfl))
  f152 := Tryz.func302.trans (congrArg some (by kernel_rfl))
  f160 := Tryz.func291.trans (congrArg some (by kernel_rfl))
  f197 := Tryz.func158.trans (congrArg some (by kernel_rfl))
  f217 := Tryz.func306.trans (congrArg some (by kernel_rfl))
  f224 := Tryz.func313.trans (congrArg some (by kernel_rfl))
  f225 := Tryz.func314.trans (congrArg some (by kernel_rfl))
  f227 := Tryz.func253.trans (congrArg some (by kernel_rfl))
  f228 := Tryz.func277.trans (congrArg some (by kernel_rfl))
  f231 := Tryz.func252.trans (congrArg some (by kernel_rfl))
  f232 := Tryz.func284.trans (congrArg some (by kernel_rfl))
  f233 := Tryz.func254.trans (congrArg some (by kernel_rfl))
  f234 := Tryz.func285.trans (congrArg some (by kernel_rfl))
  f235 := Tryz.func255.trans (congrArg some (by kernel_rfl))
  f236 := Tryz.func286.trans (congrArg some (by kernel_rfl))
  f260 := Tryz.func219.trans (congrArg some (by kernel_rfl))
  f266 := Tryz.func317.trans (congrArg some (by kernel_rfl))
  f271 := Tryz.func157.trans (congrArg some (by kernel_rfl))
  t0 := Tryz.underlying0
  a0 := Tryz.isAgg0
  z0 := Tryz.sizeOf0
  v0 := Tryz.zeroValue0
  t3 := Tryz.underlying3
  a3 := Tryz.isAgg3
  z3 := Tryz.sizeOf3
  v3 := Tryz.zeroValue3
  t4 := Tryz.underlying4
  a4 := Tryz.isAgg4
  z4 := Tryz.sizeOf4
  v4 := Tryz.zeroValue4
  t5 := Tryz.underlying5
  a5 := Tryz.isAgg5
  z5 := Tryz.sizeOf5
  v5 := Tryz.zeroValue5
  t9 := Tryz.underlying9
  a9 := Tryz.isAgg9
  z9 := Tryz.sizeOf9
  v9 := Tryz.zeroValue9
  t21 := Tryz.underlying21
  a21 := Tryz.isAgg21
  z21 := Tryz.sizeOf21
  v21 := Tryz.zeroValue21
  t46 := Tryz.underlying64
  a46 := Tryz.isAgg64
  z46 := Tryz.sizeOf64
  v46 := Tryz.zeroValue64
  t105 := Tryz.underlying268
  a105 := Tryz.isAgg268
  z105 := Tryz.sizeOf268
  v105 := Tryz.zeroValue268
  t116 := Tryz.underlying368
  a116 := Tryz.isAgg368
  z116 := Tryz.sizeOf368
  t117 := Tryz.underlying369
  a117 := Tryz.isAgg369
  z117 := Tryz.sizeOf369
  v117 := Tryz.zeroValue369
  t119 := Tryz.underlying358
  a119 := Tryz.isAgg358
  z119 := Tryz.sizeOf358
  t124 := Tryz.underlying372
  a124 := Tryz.isAgg372
  z124 := Tryz.sizeOf372
  v124 := Tryz.zeroValue372
  t138 := Tryz.underlying360
  a138 := Tryz.isAgg360
  z138 := Tryz.sizeOf360
  v138 := Tryz.zeroValue360
  t139 := Tryz.underlying361
  a139 := Tryz.isAgg361
  z139 := Tryz.sizeOf361
  v139 := Tryz.zeroValue361
  g3 := by kernel_rfl
  g4 := by kernel_rfl }
open Go.RowKit in
def Tryz.lays137_ren : Go.Shelf.Ren := ⟨fun | 137 => 288 | 217 => 306 | 266 => 317 | n => n, fun | 9 => 9 | 5 => 5 | 3 => 3 | n => n, fun | n => n⟩
theorem Tryz.lays137 : Go.Proofs.Lays.n137 Tryz.prog Tryz.lays137_ren := {
  mixed := by kernel_rfl
  f137 := Tryz.func288.trans (congrArg some (by kernel_rfl))
  f217 := Tryz.func306.trans (congrArg some (by kernel_rfl))
  f266 := Tryz.func317.trans (congrArg some (by kernel_rfl))
  t3 := Tryz.underlying3
  a3 := Tryz.isAgg3
  z3 := Tryz.sizeOf3
  v3 := Tryz.zeroValue3
  t5 := Tryz.underlying5
  a5 := Tryz.isAgg5
  z5 := Tryz.sizeOf5
  v5 := Tryz.zeroValue5
  t9 := Tryz.underlying9
  a9 := Tryz.isAgg9
  z9 := Tryz.sizeOf9
  v9 := Tryz.zeroValue9 }
open Go.RowKit in

theorem Tryz.strings_IndexByte (s : ByteArray) (c : Int) (w : World) :
    Calls Tryz.prog 288 #[.string s, .int .u8 c] w fun e w' => e = .returned (.int .i64 (Lib.indexByte s.data.toList c.toNat.toUInt8)) ∧ w' = w := Any.strings_IndexByte Tryz.lays137 s c w
def Tryz.lays103_ren : Go.Shelf.Ren := ⟨fun | 103 => 290 | 210 => 307 | 206 => 207 | n => n, fun | 9 => 9 | 4 => 4 | 24 => 131 | 3 => 3 | n => n, fun | n => n⟩
theorem Tryz.lays103 : Go.Proofs.Lays.n103 Tryz.prog Tryz.lays103_ren := {
  mixed := by kernel_rfl
  f103 := Tryz.func290.trans (congrArg some (by kernel_rfl))
  f206 := Tryz.func207.trans (congrArg some (by kernel_rfl))
  f210 := Tryz.func307.trans (congrArg some (by kernel_rfl))
  t3 := Tryz.underlying3
  a3 := Tryz.isAgg3
  z3 := Tryz.sizeOf3
  v3 := Tryz.zeroValue3
  t4 := Tryz.underlying4
  a4 := Tryz.isAgg4
  z4 := Tryz.sizeOf4
  v4 := Tryz.zeroValue4
  t9 := Tryz.underlying9
  a9 := Tryz.isAgg9
  z9 := Tryz.sizeOf9
  v9 := Tryz.zeroValue9
  t24 := Tryz.underlying131
  a24 := Tryz.isAgg131
  z24 := Tryz.sizeOf131
  v24 := Tryz.zeroValue131 }
open Go.RowKit in

theorem Tryz.strings_CutPrefix (s p : ByteArray) (w : World) :
    Calls Tryz.prog 290 #[.string s, .string p] w fun e w' => e = .returned (.tuple #[.string ⟨(Lib.trimPrefix s.data.toList p.data.toList).toArray⟩, .bool (Lib.hasPrefix s.data.toList p.data.toList)]) ∧ w' = w := Any.strings_CutPrefix Tryz.lays103 s p w
open Go.RowKit in
def Tryz.lays195_ren : Go.Shelf.Ren := ⟨fun | 195 => 206 | n => n, fun | 9 => 9 | 3 => 3 | 0 => 0 | 4 => 4 | n => n, fun | n => n⟩
theorem Tryz.lays195 : Go.Proofs.Lays.n195 Tryz.prog Tryz.lays195_ren := {
  mixed := by kernel_rfl
  f195 := Tryz.func206.trans (congrArg some (by kernel_rfl))
  t0 := Tryz.underlying0
  a0 := Tryz.isAgg0
  z0 := Tryz.sizeOf0
  v0 := Tryz.zeroValue0
  t3 := Tryz.underlying3
  a3 := Tryz.isAgg3
  z3 := Tryz.sizeOf3
  v3 := Tryz.zeroValue3
  t4 := Tryz.underlying4
  a4 := Tryz.isAgg4
  z4 := Tryz.sizeOf4
  v4 := Tryz.zeroValue4
  t9 := Tryz.underlying9
  a9 := Tryz.isAgg9
  z9 := Tryz.sizeOf9
  v9 := Tryz.zeroValue9 }
open Go.RowKit in

theorem Tryz.utf8_RuneCountInString (s : ByteArray) (w : World) (hs : s.size < 9223372036854775807) :
    Calls Tryz.prog 206 #[.string s] w fun e w' => e = .returned (.int .i64 (Lib.runeCount s)) ∧ ∃ pos, w' = w.iter s pos := Any.utf8_RuneCountInString Tryz.lays195 s w hs
open Go.RowKit in
def Tryz.lays172_ren : Go.Shelf.Ren := ⟨fun | 172 => 304 | 244 => 315 | 245 => 309 | 247 => 308 | 279 => 319 | 280 => 320 | 281 => 321 | 282 => 322 | 287 => 318 | 316 => 167 | 171 => 327 | 205 => 326 | 321 => 324 | 322 => 325 | 243 => 328 | 246 => 329 | 283 => 330 | 284 => 331 | 285 => 332 | 286 => 333 | 129 => 217 | 317 => 334 | 318 => 335 | 319 => 336 | 320 => 337 | 337 => 338 | 338 => 339 | n => n, fun | 9 => 9 | 3 => 3 | 75 => 149 | 76 => 150 | 4 => 4 | 5 => 5 | 167 => 411 | 37 => 22 | 0 => 0 | 85 => 405 | 2 => 2 | 168 => 414 | 53 => 338 | 175 => 412 | 46 => 64 | 210 => 420 | 127 => 262 | 145 => 424 | 143 => 422 | 21 => 21 | 171 => 426 | 173 => 428 | 212 => 431 | 51 => 336 | 20 => 20 | 213 => 432 | 232 => 434 | 233 => 435 | 80 => 105 | n => n, fun | 15 => 3 | 16 => 4 | 17 => 5 | 18 => 6 | 19 => 7 | n => n⟩
theorem Tryz.lays172 : Go.Proofs.Lays.n172 Tryz.prog Tryz.lays172_ren := {
  mixed := by kernel_rfl
  f129 := Tryz.func217.trans (congrArg some (by kernel_rfl))
  f171 := Tryz.func327.trans (congrArg some (by kernel_rfl))
  f172 := Tryz.func304.trans (congrArg some (by kernel_rfl))
  f205 := Tryz.func326.trans (congrArg some (by kernel_rfl))
  f243 := Tryz.func328.trans (congrArg some (by kernel_rfl))
  f244 := Tryz.func315.trans (congrArg some (by kernel_rfl))
  f245 := Tryz.func309.trans (congrArg some (by kernel_rfl))
  f246 := Tryz.func329.trans (congrArg some (by kernel_rfl))
  f247 := Tryz.func308.trans (congrArg some (by kernel_rfl))
  f279 := Tryz.func319.trans (congrArg some (by kernel_rfl))
  f280 := Tryz.func320.trans (congrArg some (by kernel_rfl))
  f281 := Tryz.func321.trans (congrArg some (by kernel_rfl))
  f282 := Tryz.func322.trans (congrArg some (by kernel_rfl))
  f283 := Tryz.func330.trans (congrArg some (by kernel_rfl))
  f284 := Tryz.func331.trans (congrArg some (by kernel_rfl))
  f285 := Tryz.func332.trans (congrArg some (by kernel_rfl))
  f286 := Tryz.func333.trans (congrArg some (by kernel_rfl))
  f287 := Tryz.func318.trans (congrArg some (by kernel_rfl))
  f316 := Tryz.func167.trans (congrArg some (by kernel_rfl))
  f317 := Tryz.func334.trans (congrArg some (by kernel_rfl))
  f318 := Tryz.func335.trans (congrArg some (by kernel_rfl))
  f319 := Tryz.func336.trans (congrArg some (by kernel_rfl))
  f320 := Tryz.func337.trans (congrArg some (by kernel_rfl))
  f321 := Tryz.func324.trans (congrArg some (by kernel_rfl))
  f322 := Tryz.func325.trans (congrArg some (by kernel_rfl))
  f337 := Tryz.func338.trans (congrArg some (by kernel_rfl))
  f338 := Tryz.func339.trans (congrArg some (by kernel_rfl))
  t0 := Tryz.underlying0
  a0 := Tryz.isAgg0
  z0 := Tryz.sizeOf0
  v0 := Tryz.zeroValue0
  t2 := Tryz.underlying2
  a2 := Tryz.isAgg2
  z2 := Tryz.sizeOf2
  v2 := Tryz.zeroValue2
  t3 := Tryz.underlying3
  a3 := Tryz.isAgg3
  z3 := Tryz.sizeOf3
  v3 := Tryz.zeroValue3
  t4 := Tryz.underlying4
  a4 := Tryz.isAgg4
  z4 := Tryz.sizeOf4
  v4 := Tryz.zeroValue4
  t5 := Tryz.underlying5
  a5 := Tryz.isAgg5
  z5 := Tryz.sizeOf5
  v5 := Tryz.zeroValue5
  t9 := Tryz.underlying9
  a9 := Tryz.isAgg9
  z9 := Tryz.sizeOf9
  v9 := Tryz.zeroValue9
  t20 := Tryz.underlying20
  a20 := Tryz.isAgg20
  z20 := Tryz.sizeOf20
  v20 := Tryz.zeroValue20
  t21 := Tryz.underlying21
  a21 := Tryz.isAgg21
  z21 := Tryz.sizeOf21
  v21 := Tryz.zeroValue21
  t37 := Tryz.underlying22
  a37 := Tryz.isAgg22
  z37 := Tryz.sizeOf22
  v37 := Tryz.zeroValue22
  t46 := Tryz.underlying64
  a46 := Tryz.isAgg64
  z46 := Tryz.sizeOf64
  v46 := Tryz.zeroValue64
  t51 := Tryz.underlying336
  a51 := Tryz.isAgg336
  z51 := Tryz.sizeOf336
  v51 := Tryz.zeroValue336
  t53 := Tryz.underlying338
  a53 := Tryz.isAgg338
  z53 := Tryz.sizeOf338
  v53 := Tryz.zeroValue338
  t75 := Tryz.underlying149
  a75 := Tryz.isAgg149
  z75 := Tryz.sizeOf149
  v75 := Tryz.zeroValue149
  t76 := Tryz.underlying150
  a76 := Tryz.isAgg150
  z76 := Tryz.sizeOf150
  v76 := Tryz.zeroValue150
  t85 := Tryz.underlying405
  a85 := Tryz.isAgg405
  z85 := Tryz.sizeOf405
  v85 := Tryz.zeroValue405
  t127 := Tryz.underlying262
  a127 := Tryz.isAgg262
  z127 := Tryz.sizeOf262
  v127 := Tryz.zeroValue262
  t143 := Tryz.underlying422
  a143 := Tryz.isAgg422
  z143 := Tryz.sizeOf422
  v143 := Tryz.zeroValue422
  t145 := Tryz.underlying424
  a145 := Tryz.isAgg424
  z145 := Tryz.sizeOf424
  v145 := Tryz.zeroValue424
  t167 := Tryz.underlying411
  a167 := Tryz.isAgg411
  z167 := Tryz.sizeOf411
  v167 := Tryz.zeroValue411
  t168 := Tryz.underlying414
  a168 := Tryz.isAgg414
  z168 := Tryz.sizeOf414
  v168 := Tryz.zeroValue414
  t171 := Tryz.underlying426
  a171 := Tryz.isAgg426
  z171 := Tryz.sizeOf426
  v171 := Tryz.zeroValue426
  t173 := Tryz.underlying428
  a173 := Tryz.isAgg428
  z173 := Tryz.sizeOf428
  v173 := Tryz.zeroValue428
  t175 := Tryz.underlying412
  a175 := Tryz.isAgg412
  z175 := Tryz.sizeOf412
  v175 := Tryz.zeroValue412
  t210 := Tryz.underlying420
  a210 := Tryz.isAgg420
  z210 := Tryz.sizeOf420
  v210 := Tryz.zeroValue420
  t212 := Tryz.underlying431
  a212 := Tryz.isAgg431
  z212 := Tryz.sizeOf431
  v212 := Tryz.zeroValue431
  t213 := Tryz.underlying432
  a213 := Tryz.isAgg432
  z213 := Tryz.sizeOf432
  t232 := Tryz.underlying434
  a232 := Tryz.isAgg434
  z232 := Tryz.sizeOf434
  v232 := Tryz.zeroValue434
  t233 := Tryz.underlying435
  a233 := Tryz.isAgg435
  z233 := Tryz.sizeOf435
  v233 := Tryz.zeroValue435
  g15 := by kernel_rfl
  g16 := by kernel_rfl
  g17 := by kernel_rfl
  g18 := by kernel_rfl
  g19 := by kernel_rfl }
open Go.RowKit in

theorem Tryz.strconv_Atoi (s : ByteArray) (n : Int) (hl : s.size ≤ 18) (h : Lib.atoi s.data.toList = some n) (w : World) :
    Calls Tryz.prog 304 #[.string s] w fun e w' => e = .returned (.tuple #[.int .i64 n, .nilIface]) ∧ ∃ t, w' = Lib.bytesWorld w 5 t := Any.strconv_Atoi Tryz.lays172 s n hl h w
def Tryz.lays144_ren : Go.Shelf.Ren := ⟨fun | 144 => 280 | 143 => 303 | 219 => 305 | 217 => 306 | 225 => 314 | 224 => 313 | 267 => 316 | 266 => 317 | 314 => 323 | n => n, fun | 9 => 9 | 4 => 4 | 3 => 3 | 5 => 5 | 46 => 64 | 146 => 392 | 51 => 336 | n => n, fun | 1 => 2 | n => n⟩
theorem Tryz.lays144 : Go.Proofs.Lays.n144 Tryz.prog Tryz.lays144_ren := {
  mixed := by kernel_rfl
  f143 := Tryz.func303.trans (congrArg some (by kernel_rfl))
  f144 := Tryz.func280.trans (congrArg some (by kernel_rfl))
  f217 := Tryz.func306.trans (congrArg some (by kernel_rfl))
  f219 := Tryz.func305.trans (congrArg some (by kernel_rfl))
  f224 := Tryz.func313.trans (congrArg some (by kernel_rfl))
  f225 := Tryz.func314.trans (congrArg some (by kernel_rfl))
  f266 := Tryz.func317.trans (congrArg some (by kernel_rfl))
  f267 := Tryz.func316.trans (congrArg some (by kernel_rfl))
  f314 := Tryz.func323.trans (congrArg some (by kernel_rfl))
  t3 := Tryz.underlying3
  a3 := Tryz.isAgg3
  z3 := Tryz.sizeOf3
  v3 := Tryz.zeroValue3
  t4 := Tryz.underlying4
  a4 := Tryz.isAgg4
  z4 := Tryz.sizeOf4
  v4 := Tryz.zeroValue4
  t5 := Tryz.underlying5
  a5 := Tryz.isAgg5
  z5 := Tryz.sizeOf5
  v5 := Tryz.zeroValue5
  t9 := Tryz.underlying9
  a9 := Tryz.isAgg9
  z9 := Tryz.sizeOf9
  v9 := Tryz.zeroValue9
  t46 := Tryz.underlying64
  a46 := Tryz.isAgg64
  z46 := Tryz.sizeOf64
  v46 := Tryz.zeroValue64
  t51 := Tryz.underlying336
  a51 := Tryz.isAgg336
  z51 := Tryz.sizeOf336
  v51 := Tryz.zeroValue336
  t146 := Tryz.underlying392
  a146 := Tryz.isAgg392
  z146 := Tryz.sizeOf392
  v146 := Tryz.zeroValue392
  g1 := by kernel_rfl }
open Go.RowKit Go.Lib in

theorem Tryz.strings_Contains (s sub : ByteArray) (m : Int) (w : World) (hs : s.size < 4294967281) (hm : w.cell? ⟨2, 0, none⟩ = some (.int .i64 m)) :
    Calls Tryz.prog 280 #[.string s, .string sub] w fun e w' => e = .returned (.bool (Lib.contains s.data.toList sub.data.toList)) ∧ w' = w := Any.strings_Contains Tryz.lays144 s sub m w hs hm
def Tryz.lays145_ren : Go.Shelf.Ren := ⟨fun | 145 => 264 | 220 => 283 | 219 => 305 | 217 => 306 | 225 => 314 | 224 => 313 | 267 => 316 | 266 => 317 | 314 => 323 | n => n, fun | 9 => 9 | 4 => 4 | 59 => 382 | 3 => 3 | 5 => 5 | 46 => 64 | 146 => 392 | 51 => 336 | n => n, fun | 1 => 2 | n => n⟩
theorem Tryz.lays145 : Go.Proofs.Lays.n145 Tryz.prog Tryz.lays145_ren := {
  mixed := by kernel_rfl
  f145 := Tryz.func264.trans (congrArg some (by kernel_rfl))
  f217 := Tryz.func306.trans (congrArg some (by kernel_rfl))
  f219 := Tryz.func305.trans (congrArg some (by kernel_rfl))
  f220 := Tryz.func283.trans (congrArg some (by kernel_rfl))
  f224 := Tryz.func313.trans (congrArg some (by kernel_rfl))
  f225 := Tryz.func314.trans (congrArg some (by kernel_rfl))
  f266 := Tryz.func317.trans (congrArg some (by kernel_rfl))
  f267 := Tryz.func316.trans (congrArg some (by kernel_rfl))
  f314 := Tryz.func323.trans (congrArg some (by kernel_rfl))
  t3 := Tryz.underlying3
  a3 := Tryz.isAgg3
  z3 := Tryz.sizeOf3
  v3 := Tryz.zeroValue3
  t4 := Tryz.underlying4
  a4 := Tryz.isAgg4
  z4 := Tryz.sizeOf4
  v4 := Tryz.zeroValue4
  t5 := Tryz.underlying5
  a5 := Tryz.isAgg5
  z5 := Tryz.sizeOf5
  v5 := Tryz.zeroValue5
  t9 := Tryz.underlying9
  a9 := Tryz.isAgg9
  z9 := Tryz.sizeOf9
  v9 := Tryz.zeroValue9
  t46 := Tryz.underlying64
  a46 := Tryz.isAgg64
  z46 := Tryz.sizeOf64
  v46 := Tryz.zeroValue64
  t51 := Tryz.underlying336
  a51 := Tryz.isAgg336
  z51 := Tryz.sizeOf336
  v51 := Tryz.zeroValue336
  t59 := Tryz.underlying382
  a59 := Tryz.isAgg382
  z59 := Tryz.sizeOf382
  v59 := Tryz.zeroValue382
  t146 := Tryz.underlying392
  a146 := Tryz.isAgg392
  z146 := Tryz.sizeOf392
  v146 := Tryz.zeroValue392
  g1 := by kernel_rfl }
open Go.RowKit Go.Lib in

theorem Tryz.strings_Cut (s sep : ByteArray) (m : Int) (w : World) (hs : s.size < 4294967281) (hm : w.cell? ⟨2, 0, none⟩ = some (.int .i64 m)) :
    Calls Tryz.prog 264 #[.string s, .string sep] w fun e w' => e = .returned (.tuple #[.string ⟨(Lib.cut s.data.toList sep.data.toList).1.toArray⟩, .string ⟨(Lib.cut s.data.toList sep.data.toList).2.1.toArray⟩, .bool (Lib.cut s.data.toList sep.data.toList).2.2]) ∧ ∃ n, w' = w.drewN n := Any.strings_Cut Tryz.lays145 s sep m w hs hm
def Tryz.lays99_ren : Go.Shelf.Ren := ⟨fun | 99 => 154 | 206 => 207 | n => n, fun | 9 => 9 | 4 => 4 | 3 => 3 | n => n, fun | n => n⟩
theorem Tryz.lays99 : Go.Proofs.Lays.n99 Tryz.prog Tryz.lays99_ren := {
  mixed := by kernel_rfl
  f99 := Tryz.func154.trans (congrArg some (by kernel_rfl))
  f206 := Tryz.func207.trans (congrArg some (by kernel_rfl))
  t3 := Tryz.underlying3
  a3 := Tryz.isAgg3
  z3 := Tryz.sizeOf3
  v3 := Tryz.zeroValue3
  t4 := Tryz.underlying4
  a4 := Tryz.isAgg4
  z4 := Tryz.sizeOf4
  v4 := Tryz.zeroValue4
  t9 := Tryz.underlying9
  a9 := Tryz.isAgg9
  z9 := Tryz.sizeOf9
  v9 := Tryz.zeroValue9 }
open Go.RowKit Go.Lib in

theorem Tryz.strings_HasPrefix (s p : ByteArray) (w : World) :
    Calls Tryz.prog 154 #[.string s, .string p] w fun e w' => e = .returned (.bool (Lib.hasPrefix s.data.toList p.data.toList)) ∧ w' = w := Any.strings_HasPrefix Tryz.lays99 s p w
def Tryz.lays197_ren : Go.Shelf.Ren := ⟨fun | 197 => 158 | 260 => 219 | n => n, fun | 9 => 9 | 21 => 21 | 3 => 3 | 4 => 4 | 5 => 5 | 105 => 268 | 119 => 358 | 0 => 0 | 46 => 64 | 139 => 361 | 138 => 360 | n => n, fun | 3 => 0 | 4 => 1 | n => n⟩
theorem Tryz.lays197 : Go.Proofs.Lays.n197 Tryz.prog Tryz.lays197_ren := {
  mixed := by kernel_rfl
  f197 := Tryz.func158.trans (congrArg some (by kernel_rfl))
  f260 := Tryz.func219.trans (congrArg some (by kernel_rfl))
  t0 := Tryz.underlying0
  a0 := Tryz.isAgg0
  z0 := Tryz.sizeOf0
  v0 := Tryz.zeroValue0
  t3 := Tryz.underlying3
  a3 := Tryz.isAgg3
  z3 := Tryz.sizeOf3
  v3 := Tryz.zeroValue3
  t4 := Tryz.underlying4
  a4 := Tryz.isAgg4
  z4 := Tryz.sizeOf4
  v4 := Tryz.zeroValue4
  t5 := Tryz.underlying5
  a5 := Tryz.isAgg5
  z5 := Tryz.sizeOf5
  v5 := Tryz.zeroValue5
  t9 := Tryz.underlying9
  a9 := Tryz.isAgg9
  z9 := Tryz.sizeOf9
  v9 := Tryz.zeroValue9
  t21 := Tryz.underlying21
  a21 := Tryz.isAgg21
  z21 := Tryz.sizeOf21
  v21 := Tryz.zeroValue21
  t46 := Tryz.underlying64
  a46 := Tryz.isAgg64
  z46 := Tryz.sizeOf64
  v46 := Tryz.zeroValue64
  t105 := Tryz.underlying268
  a105 := Tryz.isAgg268
  z105 := Tryz.sizeOf268
  v105 := Tryz.zeroValue268
  t119 := Tryz.underlying358
  a119 := Tryz.isAgg358
  z119 := Tryz.sizeOf358
  t138 := Tryz.underlying360
  a138 := Tryz.isAgg360
  z138 := Tryz.sizeOf360
  v138 := Tryz.zeroValue360
  t139 := Tryz.underlying361
  a139 := Tryz.isAgg361
  z139 := Tryz.sizeOf361
  v139 := Tryz.zeroValue361
  g3 := by kernel_rfl
  g4 := by kernel_rfl }
open Go.RowKit Go.Lib in

theorem Tryz.utf8_DecodeRuneInString (s : ByteArray) (w : World) (hT : Lib.Utf8Tabs 0 1 w) :
    Calls Tryz.prog 158 #[.string s] w fun e w' => e = .returned (.tuple #[.int .i32 (Lib.decodeGo s).1, .int .i64 (Lib.decodeGo s).2]) ∧ Below w.heap.size w w' := Any.utf8_DecodeRuneInString Tryz.lays197 s w hT
end Go.Proofs
