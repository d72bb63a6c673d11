/- More of what the library's functions do. -/
import Derived.Test.YtjjppmbojcgdgaaGreatDoorShelf
import Derived.Shelf.Strings.Trim
import Derived.Shelf.Strconv.Itoa0
import Derived.Shelf.Strconv.Itoa1
import Derived.Shelf.Strconv.Itoa2
import Derived.Shelf.Strconv.Itoa3
set_option linter.unusedVariables false
set_option linter.unusedSimpArgs false
namespace Go.Proofs
open Go.Shelf
def Tryz.lays161_ren : Go.Shelf.Ren := ⟨fun | 161 => 257 | 231 => 285 | 227 => 259 | 233 => 286 | 235 => 287 | 228 => 288 | 197 => 154 | 151 => 289 | 260 => 224 | 152 => 306 | 137 => 210 | 119 => 319 | 224 => 320 | 225 => 321 | 217 => 262 | 266 => 290 | n => n, fun | 9 => 9 | 4 => 4 | 3 => 3 | 5 => 5 | 117 => 360 | 116 => 359 | 0 => 0 | 124 => 363 | 105 => 250 | 21 => 21 | 119 => 371 | 46 => 127 | 139 => 374 | 138 => 373 | n => n, fun | 3 => 0 | 4 => 1 | n => n⟩
theorem Tryz.lays161 : Go.Proofs.Lays.n161 Tryz.prog Tryz.lays161_ren := {
  mixed := by kernel_rfl
  f119 := Tryz.func319.trans (congrArg some (by kernel_rfl))
  f137 := Tryz.func210.trans (congrArg some (by kernel_rfl))
  f151 := Tryz.func289.trans (congrArg some (by kernel_rfl))
  f152 := Tryz.func306.trans (congrArg some (by kernel_rfl))
  f161 := Tryz.func257.trans (congrArg some (by kernel_rfl))
  f197 := Tryz.func154.trans (congrArg some (by kernel_rfl))
  f217 := Tryz.func262.trans (congrArg some (by kernel_rfl))
  f224 := Tryz.func320.trans (congrArg some (by kernel_rfl))
  f225 := Tryz.func321.trans (congrArg some (by kernel_rfl))
  f227 := Tryz.func259.trans (congrArg some (by kernel_rfl))
  f228 := Tryz.func288.trans (congrArg some (by kernel_rfl))
  f231 := Tryz.func285.trans (congrArg some (by kernel_rfl))
  f233 := Tryz.func286.trans (congrArg some (by kernel_rfl))
  f235 := Tryz.func287.trans (congrArg some (by kernel_rfl))
  f260 := Tryz.func224.trans (congrArg some (by kernel_rfl))
  f266 := Tryz.func290.trans (congrArg some (by kernel_rfl))
  t0 := Tryz.underlying0
  a0 := Tryz.isAgg0
  z0 := Tryz.sizeOf0
  v0 := Tryz.zeroValue0
  t3 := Tryz.underlying3
  a3 := Tryz.isAgg3
  z3 := Tryz.sizeOf3
  v3 := Tryz.zeroValue3
  t4 := Tryz.underlying4
  a4 := Tryz.isAgg4
  z4 := Tryz.sizeOf4
  v4 := Tryz.zeroValue4
  t5 := Tryz.underlying5
  a5 := Tryz.isAgg5
  z5 := Tryz.sizeOf5
  v5 := Tryz.zeroValue5
  t9 := Tryz.underlying9
  a9 := Tryz.isAgg9
  z9 := Tryz.sizeOf9
  v9 := Tryz.zeroValue9
  t21 := Tryz.underlying21
  a21 := Tryz.isAgg21
  z21 := Tryz.sizeOf21
  v21 := Tryz.zeroValue21
  t46 := Tryz.underlying127
  a46 := Tryz.isAgg127
  z46 := Tryz.sizeOf127
  v46 := Tryz.zeroValue127
  t105 := Tryz.underlying250
  a105 := Tryz.isAgg250
  z105 := Tryz.sizeOf250
  v105 := Tryz.zeroValue250
  t116 := Tryz.underlying359
  a116 := Tryz.isAgg359
  z116 := Tryz.sizeOf359
  t117 := Tryz.underlying360
  a117 := Tryz.isAgg360
  z117 := Tryz.sizeOf360
  v117 := Tryz.zeroValue360
  t119 := Tryz.underlying371
  a119 := Tryz.isAgg371
  z119 := Tryz.sizeOf371
  t124 := Tryz.underlying363
  a124 := Tryz.isAgg363
  z124 := Tryz.sizeOf363
  v124 := Tryz.zeroValue363
  t138 := Tryz.underlying373
  a138 := Tryz.isAgg373
  z138 := Tryz.sizeOf373
  v138 := Tryz.zeroValue373
  t139 := Tryz.underlying374
  a139 := Tryz.isAgg374
  z139 := Tryz.sizeOf374
  v139 := Tryz.zeroValue374
  g3 := by kernel_rfl
  g4 := by kernel_rfl }
open Go.RowKit in
theorem Tryz.strings_TrimLeft_one (s : ByteArray) (c : UInt8) (hc : c.toNat < 128) (w : World) :
    Calls Tryz.prog 257 #[.string s, .string ⟨#[c]⟩] w fun e w' => e = .returned (.string ⟨(Lib.trimLeftB s.data.toList c).toArray⟩) ∧ w' = w := Any.strings_TrimLeft_one Tryz.lays161 s c hc w
def Tryz.laysM171_ren : Go.Shelf.Ren := ⟨fun | 171 => 150 | 243 => 212 | 246 => 263 | 283 => 291 | 284 => 292 | 285 => 293 | 286 => 294 | 129 => 222 | 317 => 307 | 318 => 308 | 319 => 309 | 320 => 310 | 337 => 322 | 338 => 323 | n => n, fun | 3 => 3 | 9 => 9 | 2 => 2 | 4 => 4 | 171 => 392 | 0 => 0 | 53 => 333 | 37 => 49 | 5 => 5 | 173 => 394 | 212 => 406 | 51 => 331 | 20 => 20 | 213 => 407 | 46 => 127 | 232 => 417 | 233 => 418 | n => n, fun | 17 => 3 | 18 => 4 | 19 => 5 | n => n⟩
theorem Tryz.laysM171 : Go.Proofs.LaysM.n171 Tryz.prog Tryz.laysM171_ren := {
  mixed := by kernel_rfl
  f129 := Tryz.func222.trans (congrArg some (by kernel_rfl))
  f171 := Tryz.func150.trans (congrArg some (by kernel_rfl))
  f243 := Tryz.func212.trans (congrArg some (by kernel_rfl))
  f246 := Tryz.func263.trans (congrArg some (by kernel_rfl))
  f283 := Tryz.func291.trans (congrArg some (by kernel_rfl))
  f284 := Tryz.func292.trans (congrArg some (by kernel_rfl))
  f285 := Tryz.func293.trans (congrArg some (by kernel_rfl))
  f286 := Tryz.func294.trans (congrArg some (by kernel_rfl))
  f317 := Tryz.func307.trans (congrArg some (by kernel_rfl))
  f318 := Tryz.func308.trans (congrArg some (by kernel_rfl))
  f319 := Tryz.func309.trans (congrArg some (by kernel_rfl))
  f320 := Tryz.func310.trans (congrArg some (by kernel_rfl))
  f337 := Tryz.func322.trans (congrArg some (by kernel_rfl))
  f338 := Tryz.func323.trans (congrArg some (by kernel_rfl))
  t0 := Tryz.underlying0
  a0 := Tryz.isAgg0
  z0 := Tryz.sizeOf0
  v0 := Tryz.zeroValue0
  t2 := Tryz.underlying2
  a2 := Tryz.isAgg2
  z2 := Tryz.sizeOf2
  v2 := Tryz.zeroValue2
  t3 := Tryz.underlying3
  a3 := Tryz.isAgg3
  z3 := Tryz.sizeOf3
  v3 := Tryz.zeroValue3
  t4 := Tryz.underlying4
  a4 := Tryz.isAgg4
  z4 := Tryz.sizeOf4
  v4 := Tryz.zeroValue4
  t5 := Tryz.underlying5
  a5 := Tryz.isAgg5
  z5 := Tryz.sizeOf5
  v5 := Tryz.zeroValue5
  t9 := Tryz.underlying9
  a9 := Tryz.isAgg9
  z9 := Tryz.sizeOf9
  v9 := Tryz.zeroValue9
  t20 := Tryz.underlying20
  a20 := Tryz.isAgg20
  z20 := Tryz.sizeOf20
  v20 := Tryz.zeroValue20
  t37 := Tryz.underlying49
  a37 := Tryz.isAgg49
  z37 := Tryz.sizeOf49
  v37 := Tryz.zeroValue49
  t46 := Tryz.underlying127
  a46 := Tryz.isAgg127
  z46 := Tryz.sizeOf127
  v46 := Tryz.zeroValue127
  t51 := Tryz.underlying331
  a51 := Tryz.isAgg331
  z51 := Tryz.sizeOf331
  v51 := Tryz.zeroValue331
  t53 := Tryz.underlying333
  a53 := Tryz.isAgg333
  z53 := Tryz.sizeOf333
  v53 := Tryz.zeroValue333
  t171 := Tryz.underlying392
  a171 := Tryz.isAgg392
  z171 := Tryz.sizeOf392
  v171 := Tryz.zeroValue392
  t173 := Tryz.underlying394
  a173 := Tryz.isAgg394
  z173 := Tryz.sizeOf394
  v173 := Tryz.zeroValue394
  t212 := Tryz.underlying406
  a212 := Tryz.isAgg406
  z212 := Tryz.sizeOf406
  v212 := Tryz.zeroValue406
  t213 := Tryz.underlying407
  a213 := Tryz.isAgg407
  z213 := Tryz.sizeOf407
  t232 := Tryz.underlying417
  a232 := Tryz.isAgg417
  z232 := Tryz.sizeOf417
  v232 := Tryz.zeroValue417
  t233 := Tryz.underlying418
  a233 := Tryz.isAgg418
  z233 := Tryz.sizeOf418
  v233 := Tryz.zeroValue418
  g17 := by kernel_rfl
  g18 := by kernel_rfl
  g19 := by kernel_rfl
  i0 := by kernel_rfl
  i2 := by kernel_rfl
  i3 := by kernel_rfl
  i4 := by kernel_rfl
  i5 := by kernel_rfl
  i9 := by kernel_rfl
  i20 := by kernel_rfl
  i37 := by kernel_rfl
  i46 := by kernel_rfl
  i51 := by kernel_rfl
  i53 := by kernel_rfl
  i171 := by kernel_rfl
  i173 := by kernel_rfl
  i212 := by kernel_rfl
  i232 := by kernel_rfl
  i233 := by kernel_rfl
  m17 := by kernel_rfl
  m18 := by kernel_rfl
  m19 := by kernel_rfl }
open Go.RowKit Go.Sort Go.Lib in
theorem Tryz.strconv_Itoa (n : Int) (h0 : -9223372036854775808 ≤ n) (h1 : n ≤ 9223372036854775807) (w : World) (htab : Lib.TabIs Tryz.prog w "internal/strconv.uint64pow10" .u64 Lib.pow10Tab) :
    Calls Tryz.prog 150 #[.int .i64 n] w fun e w' => e = .returned (.string ⟨(Lib.itoa n).toArray⟩) ∧ ∃ k os, w' = grow (w.drewN k) os := Any.strconv_Itoa Tryz.laysM171 n h0 h1 w htab
end Go.Proofs
