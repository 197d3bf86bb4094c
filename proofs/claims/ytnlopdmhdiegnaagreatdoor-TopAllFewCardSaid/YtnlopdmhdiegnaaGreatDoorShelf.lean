/-
  DERIVED: THE SHELF's CONTRACTS AT THIS DUMP, IN PLAIN WORDS (tools/lay-plain.mjs out of 'TryzShelf.lean', which tools/lay-shelf.mjs wrote): THE SAME DECLARATIONS UNDER THE SAME NAMES: 'import', 'namespace', 'open', 'def', 'theorem' AND NOTHING ELSE: no command of the shelf's: FOR A HAND-IN. Each laying: the table of numbers ('.._ren') and one theorem, a field a fact of the dump's own or the kernel's comparison; each contract: ONE APPLICATION.
-/
import Derived.Shelf.Small.Bits
import Derived.Shelf.Small.Wraps
import Derived.Shelf.Strconv.Itoa0
import Derived.Shelf.Strconv.Itoa1
import Derived.Shelf.LaysM
import Derived.Shelf.Strconv.Itoa2
import Derived.Shelf.Strconv.Itoa3
import Derived.Shelf.Strings.Search1
import Derived.Shelf.Strings.Search2
import Derived.Shelf.Strings.Search3
import Derived.Shelf.Strings.Cut
import Derived.Shelf.Sort.Plain
import Derived.Ground.GgsProg
import Derived.Shelf.GgSortFunc.Tiny
import Derived.Shelf.Strings.Prefix
import Derived.Shelf.Bits.Mul64
import Derived.Shelf.Slices.Turned
import Derived.Shelf.Slices.Reverse
import Derived.Shelf.Slices.Equal
import Derived.Ground.Names2Prog
import Derived.Shelf.Slices.Clone
import Derived.Shelf.Slices.CompactI
import Derived.Shelf.Slices.SearchI
import Derived.Shelf.Slices.Cells
import Derived.Shelf.Slices.In.SortNone
import Derived.Shelf.Slices.Empties2
import Derived.Shelf.SlSortFuncK.WholeK
import Derived.Test.YtnlopdmhdiegnaaGreatDoorProg
namespace Go.Proofs
open Go.Shelf
def Tryz.lays122_ren : Go.Shelf.Ren := ⟨fun | 122 => 285 | 215 => 300 | n => n, fun | 3 => 3 | 4 => 4 | n => n, fun | n => n⟩
theorem Tryz.lays122 : Go.Proofs.Lays.n122 Tryz.prog Tryz.lays122_ren := {
  mixed := by kernel_rfl
  f122 := Tryz.func285.trans (congrArg some (by kernel_rfl))
  f215 := Tryz.func300.trans (congrArg some (by kernel_rfl))
  t3 := Tryz.underlying3
  a3 := Tryz.isAgg3
  z3 := Tryz.sizeOf3
  v3 := Tryz.zeroValue3
  t4 := Tryz.underlying4
  a4 := Tryz.isAgg4
  z4 := Tryz.sizeOf4
  v4 := Tryz.zeroValue4 }
open Go.RowKit in
/-- cmp.Compare at int: "Compare returns -1 if x is less than y, 0 if x equals y, +1 if x is greater than y.": IT RETURNS 'Lib.compareInt x y'; the world is as it was. (LAID: no walk: one application.) -/
theorem Tryz.cmp_Compare_int (x y : Int) (w : World) :
    Calls Tryz.prog 285 #[.int .i64 x, .int .i64 y] w fun e w' => e = .returned (.int .i64 (Lib.compareInt x y)) ∧ w' = w := Any.cmp_Compare_int Tryz.lays122 x y w
def Tryz.laysM171_ren : Go.Shelf.Ren := ⟨fun | 171 => 219 | 243 => 278 | 246 => 335 | 283 => 360 | 284 => 361 | 285 => 362 | 286 => 363 | 129 => 255 | 317 => 376 | 318 => 377 | 319 => 378 | 320 => 379 | 337 => 384 | 338 => 385 | n => n, fun | 3 => 3 | 9 => 9 | 2 => 2 | 4 => 4 | 171 => 458 | 0 => 0 | 53 => 63 | 37 => 460 | 5 => 5 | 173 => 461 | 212 => 471 | 51 => 370 | 20 => 20 | 213 => 472 | 46 => 265 | 232 => 476 | 233 => 477 | n => n, fun | 17 => 3 | 18 => 4 | 19 => 5 | n => n⟩
theorem Tryz.laysM171 : Go.Proofs.LaysM.n171 Tryz.prog Tryz.laysM171_ren := {
  mixed := by kernel_rfl
  f129 := Tryz.func255.trans (congrArg some (by kernel_rfl))
  f171 := Tryz.func219.trans (congrArg some (by kernel_rfl))
  f243 := Tryz.func278.trans (congrArg some (by kernel_rfl))
  f246 := Tryz.func335.trans (congrArg some (by kernel_rfl))
  f283 := Tryz.func360.trans (congrArg some (by kernel_rfl))
  f284 := Tryz.func361.trans (congrArg some (by kernel_rfl))
  f285 := Tryz.func362.trans (congrArg some (by kernel_rfl))
  f286 := Tryz.func363.trans (congrArg some (by kernel_rfl))
  f317 := Tryz.func376.trans (congrArg some (by kernel_rfl))
  f318 := Tryz.func377.trans (congrArg some (by kernel_rfl))
  f319 := Tryz.func378.trans (congrArg some (by kernel_rfl))
  f320 := Tryz.func379.trans (congrArg some (by kernel_rfl))
  f337 := Tryz.func384.trans (congrArg some (by kernel_rfl))
  f338 := Tryz.func385.trans (congrArg some (by kernel_rfl))
  t0 := Tryz.underlying0
  a0 := Tryz.isAgg0
  z0 := Tryz.sizeOf0
  v0 := Tryz.zeroValue0
  t2 := Tryz.underlying2
  a2 := Tryz.isAgg2
  z2 := Tryz.sizeOf2
  v2 := Tryz.zeroValue2
  t3 := Tryz.underlying3
  a3 := Tryz.isAgg3
  z3 := Tryz.sizeOf3
  v3 := Tryz.zeroValue3
  t4 := Tryz.underlying4
  a4 := Tryz.isAgg4
  z4 := Tryz.sizeOf4
  v4 := Tryz.zeroValue4
  t5 := Tryz.underlying5
  a5 := Tryz.isAgg5
  z5 := Tryz.sizeOf5
  v5 := Tryz.zeroValue5
  t9 := Tryz.underlying9
  a9 := Tryz.isAgg9
  z9 := Tryz.sizeOf9
  v9 := Tryz.zeroValue9
  t20 := Tryz.underlying20
  a20 := Tryz.isAgg20
  z20 := Tryz.sizeOf20
  v20 := Tryz.zeroValue20
  t37 := Tryz.underlying460
  a37 := Tryz.isAgg460
  z37 := Tryz.sizeOf460
  v37 := Tryz.zeroValue460
  t46 := Tryz.underlying265
  a46 := Tryz.isAgg265
  z46 := Tryz.sizeOf265
  v46 := Tryz.zeroValue265
  t51 := Tryz.underlying370
  a51 := Tryz.isAgg370
  z51 := Tryz.sizeOf370
  v51 := Tryz.zeroValue370
  t53 := Tryz.underlying63
  a53 := Tryz.isAgg63
  z53 := Tryz.sizeOf63
  v53 := Tryz.zeroValue63
  t171 := Tryz.underlying458
  a171 := Tryz.isAgg458
  z171 := Tryz.sizeOf458
  v171 := Tryz.zeroValue458
  t173 := Tryz.underlying461
  a173 := Tryz.isAgg461
  z173 := Tryz.sizeOf461
  v173 := Tryz.zeroValue461
  t212 := Tryz.underlying471
  a212 := Tryz.isAgg471
  z212 := Tryz.sizeOf471
  v212 := Tryz.zeroValue471
  t213 := Tryz.underlying472
  a213 := Tryz.isAgg472
  z213 := Tryz.sizeOf472
  t232 := Tryz.underlying476
  a232 := Tryz.isAgg476
  z232 := Tryz.sizeOf476
  v232 := Tryz.zeroValue476
  t233 := Tryz.underlying477
  a233 := Tryz.isAgg477
  z233 := Tryz.sizeOf477
  v233 := Tryz.zeroValue477
  g17 := by kernel_rfl
  g18 := by kernel_rfl
  g19 := by kernel_rfl
  i0 := by kernel_rfl
  i2 := by kernel_rfl
  i3 := by kernel_rfl
  i4 := by kernel_rfl
  i5 := by kernel_rfl
  i9 := by kernel_rfl
  i20 := by kernel_rfl
  i37 := by kernel_rfl
  i46 := by kernel_rfl
  i51 := by kernel_rfl
  i53 := by kernel_rfl
  i171 := by kernel_rfl
  i173 := by kernel_rfl
  i212 := by kernel_rfl
  i232 := by kernel_rfl
  i233 := by kernel_rfl
  m17 := by kernel_rfl
  m18 := by kernel_rfl
  m19 := by kernel_rfl }
open Go.RowKit Go.Sort Go.Lib in
/-- strconv.Itoa: "Itoa is equivalent to FormatInt(int64(i), 10).": i's DECIMAL NUMERAL ('Lib.itoa': a '-' where i is negative, then the digits), FOR EVERY int. The world behind the call: the world before it, new blocks behind the heap (the library's 'var a [24]byte'), draws. (LAID: no walk: one application.) -/
theorem Tryz.strconv_Itoa (n : Int) (h0 : -9223372036854775808 ≤ n) (h1 : n ≤ 9223372036854775807) (w : World) (htab : Lib.TabIs Tryz.prog w "internal/strconv.uint64pow10" .u64 Lib.pow10Tab) :
    Calls Tryz.prog 219 #[.int .i64 n] w fun e w' => e = .returned (.string ⟨(Lib.itoa n).toArray⟩) ∧ ∃ k os, w' = grow (w.drewN k) os := Any.strconv_Itoa Tryz.laysM171 n h0 h1 w htab
def Tryz.lays171_ren : Go.Shelf.Ren := ⟨fun | 171 => 219 | 243 => 278 | 246 => 335 | 283 => 360 | 284 => 361 | 285 => 362 | 286 => 363 | 129 => 255 | 317 => 376 | 318 => 377 | 319 => 378 | 320 => 379 | 337 => 384 | 338 => 385 | n => n, fun | 3 => 3 | 9 => 9 | 2 => 2 | 4 => 4 | 171 => 458 | 0 => 0 | 53 => 63 | 37 => 460 | 5 => 5 | 173 => 461 | 212 => 471 | 51 => 370 | 20 => 20 | 213 => 472 | 46 => 265 | 232 => 476 | 233 => 477 | n => n, fun | 17 => 3 | 18 => 4 | 19 => 5 | n => n⟩
theorem Tryz.lays171 : Go.Proofs.Lays.n171 Tryz.prog Tryz.lays171_ren := {
  mixed := by kernel_rfl
  f129 := Tryz.func255.trans (congrArg some (by kernel_rfl))
  f171 := Tryz.func219.trans (congrArg some (by kernel_rfl))
  f243 := Tryz.func278.trans (congrArg some (by kernel_rfl))
  f246 := Tryz.func335.trans (congrArg some (by kernel_rfl))
  f283 := Tryz.func360.trans (congrArg some (by kernel_rfl))
  f284 := Tryz.func361.trans (congrArg some (by kernel_rfl))
  f285 := Tryz.func362.trans (congrArg some (by kernel_rfl))
  f286 := Tryz.func363.trans (congrArg some (by kernel_rfl))
  f317 := Tryz.func376.trans (congrArg some (by kernel_rfl))
  f318 := Tryz.func377.trans (congrArg some (by kernel_rfl))
  f319 := Tryz.func378.trans (congrArg some (by kernel_rfl))
  f320 := Tryz.func379.trans (congrArg some (by kernel_rfl))
  f337 := Tryz.func384.trans (congrArg some (by kernel_rfl))
  f338 := Tryz.func385.trans (congrArg some (by kernel_rfl))
  t0 := Tryz.underlying0
  a0 := Tryz.isAgg0
  z0 := Tryz.sizeOf0
  v0 := Tryz.zeroValue0
  t2 := Tryz.underlying2
  a2 := Tryz.isAgg2
  z2 := Tryz.sizeOf2
  v2 := Tryz.zeroValue2
  t3 := Tryz.underlying3
  a3 := Tryz.isAgg3
  z3 := Tryz.sizeOf3
  v3 := Tryz.zeroValue3
  t4 := Tryz.underlying4
  a4 := Tryz.isAgg4
  z4 := Tryz.sizeOf4
  v4 := Tryz.zeroValue4
  t5 := Tryz.underlying5
  a5 := Tryz.isAgg5
  z5 := Tryz.sizeOf5
  v5 := Tryz.zeroValue5
  t9 := Tryz.underlying9
  a9 := Tryz.isAgg9
  z9 := Tryz.sizeOf9
  v9 := Tryz.zeroValue9
  t20 := Tryz.underlying20
  a20 := Tryz.isAgg20
  z20 := Tryz.sizeOf20
  v20 := Tryz.zeroValue20
  t37 := Tryz.underlying460
  a37 := Tryz.isAgg460
  z37 := Tryz.sizeOf460
  v37 := Tryz.zeroValue460
  t46 := Tryz.underlying265
  a46 := Tryz.isAgg265
  z46 := Tryz.sizeOf265
  v46 := Tryz.zeroValue265
  t51 := Tryz.underlying370
  a51 := Tryz.isAgg370
  z51 := Tryz.sizeOf370
  v51 := Tryz.zeroValue370
  t53 := Tryz.underlying63
  a53 := Tryz.isAgg63
  z53 := Tryz.sizeOf63
  v53 := Tryz.zeroValue63
  t171 := Tryz.underlying458
  a171 := Tryz.isAgg458
  z171 := Tryz.sizeOf458
  v171 := Tryz.zeroValue458
  t173 := Tryz.underlying461
  a173 := Tryz.isAgg461
  z173 := Tryz.sizeOf461
  v173 := Tryz.zeroValue461
  t212 := Tryz.underlying471
  a212 := Tryz.isAgg471
  z212 := Tryz.sizeOf471
  v212 := Tryz.zeroValue471
  t213 := Tryz.underlying472
  a213 := Tryz.isAgg472
  z213 := Tryz.sizeOf472
  t232 := Tryz.underlying476
  a232 := Tryz.isAgg476
  z232 := Tryz.sizeOf476
  v232 := Tryz.zeroValue476
  t233 := Tryz.underlying477
  a233 := Tryz.isAgg477
  z233 := Tryz.sizeOf477
  v233 := Tryz.zeroValue477
  g17 := by kernel_rfl
  g18 := by kernel_rfl
  g19 := by kernel_rfl }
open Go.RowKit Go.Sort Go.Lib in
/-- THE ROAD WITHOUT THE TABLE: 0 <= i < 100: NO PREMISE ON THE WORLD, AND THE WORLD IS AS IT WAS: a row that keeps its argument in that range need list no table ('laid = []'). (LAID: no walk: one application.) -/
theorem Tryz.strconv_Itoa_small (i : Nat) (hi : i < 100) (w : World) :
    Calls Tryz.prog 219 #[.int .i64 i] w fun e w' => e = .returned (.string ⟨(Lib.decDigits i).toArray⟩) ∧ w' = w := Any.strconv_Itoa_small Tryz.lays171 i hi w
def Tryz.lays144_ren : Go.Shelf.Ren := ⟨fun | 144 => 241 | 143 => 294 | 219 => 276 | 217 => 330 | 225 => 331 | 224 => 332 | 267 => 333 | 266 => 356 | 314 => 357 | n => n, fun | 9 => 9 | 4 => 4 | 3 => 3 | 5 => 5 | 46 => 265 | 146 => 455 | 51 => 370 | n => n, fun | 1 => 2 | n => n⟩
theorem Tryz.lays144 : Go.Proofs.Lays.n144 Tryz.prog Tryz.lays144_ren := {
  mixed := by kernel_rfl
  f143 := Tryz.func294.trans (congrArg some (by kernel_rfl))
  f144 := Tryz.func241.trans (congrArg some (by kernel_rfl))
  f217 := Tryz.func330.trans (congrArg some (by kernel_rfl))
  f219 := Tryz.func276.trans (congrArg some (by kernel_rfl))
  f224 := Tryz.func332.trans (congrArg some (by kernel_rfl))
  f225 := Tryz.func331.trans (congrArg some (by kernel_rfl))
  f266 := Tryz.func356.trans (congrArg some (by kernel_rfl))
  f267 := Tryz.func333.trans (congrArg some (by kernel_rfl))
  f314 := Tryz.func357.trans (congrArg some (by kernel_rfl))
  t3 := Tryz.underlying3
  a3 := Tryz.isAgg3
  z3 := Tryz.sizeOf3
  v3 := Tryz.zeroValue3
  t4 := Tryz.underlying4
  a4 := Tryz.isAgg4
  z4 := Tryz.sizeOf4
  v4 := Tryz.zeroValue4
  t5 := Tryz.underlying5
  a5 := Tryz.isAgg5
  z5 := Tryz.sizeOf5
  v5 := Tryz.zeroValue5
  t9 := Tryz.underlying9
  a9 := Tryz.isAgg9
  z9 := Tryz.sizeOf9
  v9 := Tryz.zeroValue9
  t46 := Tryz.underlying265
  a46 := Tryz.isAgg265
  z46 := Tryz.sizeOf265
  v46 := Tryz.zeroValue265
  t51 := Tryz.underlying370
  a51 := Tryz.isAgg370
  z51 := Tryz.sizeOf370
  v51 := Tryz.zeroValue370
  t146 := Tryz.underlying455
  a146 := Tryz.isAgg455
  z146 := Tryz.sizeOf455
  v146 := Tryz.zeroValue455
  g1 := by kernel_rfl }
open Go.RowKit Go.Lib in
/-- strings.Contains: "Contains reports whether substr is within s.": AT A substr OF ONE BYTE c: IT RETURNS 'decide (0 ≤ Lib.indexByte s c)'; the world is as it was. (LAID: no walk: one application.) -/
theorem Tryz.strings_Contains_one (s : ByteArray) (c : UInt8) (w : World) :
    Calls Tryz.prog 241 #[.string s, .string ⟨#[c]⟩] w fun e w' => e = .returned (.bool (decide (0 ≤ Lib.indexByte s.data.toList c))) ∧ w' = w := Any.strings_Contains_one Tryz.lays144 s c w
def Tryz.lays145_ren : Go.Shelf.Ren := ⟨fun | 145 => 155 | 220 => 217 | 219 => 276 | 217 => 330 | 225 => 331 | 224 => 332 | 267 => 333 | 266 => 356 | 314 => 357 | n => n, fun | 9 => 9 | 4 => 4 | 59 => 270 | 3 => 3 | 5 => 5 | 46 => 265 | 146 => 455 | 51 => 370 | n => n, fun | 1 => 2 | n => n⟩
theorem Tryz.lays145 : Go.Proofs.Lays.n145 Tryz.prog Tryz.lays145_ren := {
  mixed := by kernel_rfl
  f145 := Tryz.func155.trans (congrArg some (by kernel_rfl))
  f217 := Tryz.func330.trans (congrArg some (by kernel_rfl))
  f219 := Tryz.func276.trans (congrArg some (by kernel_rfl))
  f220 := Tryz.func217.trans (congrArg some (by kernel_rfl))
  f224 := Tryz.func332.trans (congrArg some (by kernel_rfl))
  f225 := Tryz.func331.trans (congrArg some (by kernel_rfl))
  f266 := Tryz.func356.trans (congrArg some (by kernel_rfl))
  f267 := Tryz.func333.trans (congrArg some (by kernel_rfl))
  f314 := Tryz.func357.trans (congrArg some (by kernel_rfl))
  t3 := Tryz.underlying3
  a3 := Tryz.isAgg3
  z3 := Tryz.sizeOf3
  v3 := Tryz.zeroValue3
  t4 := Tryz.underlying4
  a4 := Tryz.isAgg4
  z4 := Tryz.sizeOf4
  v4 := Tryz.zeroValue4
  t5 := Tryz.underlying5
  a5 := Tryz.isAgg5
  z5 := Tryz.sizeOf5
  v5 := Tryz.zeroValue5
  t9 := Tryz.underlying9
  a9 := Tryz.isAgg9
  z9 := Tryz.sizeOf9
  v9 := Tryz.zeroValue9
  t46 := Tryz.underlying265
  a46 := Tryz.isAgg265
  z46 := Tryz.sizeOf265
  v46 := Tryz.zeroValue265
  t51 := Tryz.underlying370
  a51 := Tryz.isAgg370
  z51 := Tryz.sizeOf370
  v51 := Tryz.zeroValue370
  t59 := Tryz.underlying270
  a59 := Tryz.isAgg270
  z59 := Tryz.sizeOf270
  v59 := Tryz.zeroValue270
  t146 := Tryz.underlying455
  a146 := Tryz.isAgg455
  z146 := Tryz.sizeOf455
  v146 := Tryz.zeroValue455
  g1 := by kernel_rfl }
open Go.RowKit Go.Lib in
/-- strings.Cut: "Cut slices s around the first instance of sep, returning the text before and after sep. The found result reports whether sep appears in s. If sep does not appear in s, cut returns s, "", false.": IT RETURNS 'Lib.cut s sep'; the world is as it was but for the count of draws. (LAID: no walk: one application.) -/
theorem Tryz.strings_Cut (s sep : ByteArray) (m : Int) (w : World) (hs : s.size < 4294967281) (hm : w.cell? ⟨2, 0, none⟩ = some (.int .i64 m)) :
    Calls Tryz.prog 155 #[.string s, .string sep] w fun e w' => e = .returned (.tuple #[.string ⟨(Lib.cut s.data.toList sep.data.toList).1.toArray⟩, .string ⟨(Lib.cut s.data.toList sep.data.toList).2.1.toArray⟩, .bool (Lib.cut s.data.toList sep.data.toList).2.2]) ∧ ∃ n, w' = w.drewN n := Any.strings_Cut Tryz.lays145 s sep m w hs hm
def Tryz.lays189_ren : Go.Shelf.Ren := ⟨fun | 189 => 125 | 125 => 194 | 257 => 193 | 128 => 254 | 129 => 255 | 294 => 245 | 295 => 246 | 296 => 247 | 297 => 248 | 298 => 249 | 299 => 250 | 216 => 251 | 300 => 252 | 301 => 253 | 328 => 295 | 329 => 296 | 330 => 297 | 331 => 298 | 332 => 299 | 215 => 300 | 343 => 340 | n => n, fun | 28 => 45 | 3 => 3 | 46 => 265 | 0 => 0 | 51 => 370 | 53 => 63 | 4 => 4 | 183 => 365 | 182 => 364 | 131 => 90 | 5 => 5 | 9 => 9 | 218 => 410 | 222 => 414 | 228 => 442 | 229 => 111 | n => n, fun | n => n⟩
theorem Tryz.lays189 : Go.Proofs.Lays.n189 Tryz.prog Tryz.lays189_ren := {
  mixed := by kernel_rfl
  f125 := Tryz.func194.trans (congrArg some (by kernel_rfl))
  f128 := Tryz.func254.trans (congrArg some (by kernel_rfl))
  f129 := Tryz.func255.trans (congrArg some (by kernel_rfl))
  f189 := Tryz.func125.trans (congrArg some (by kernel_rfl))
  f215 := Tryz.func300.trans (congrArg some (by kernel_rfl))
  f216 := Tryz.func251.trans (congrArg some (by kernel_rfl))
  f257 := Tryz.func193.trans (congrArg some (by kernel_rfl))
  f294 := Tryz.func245.trans (congrArg some (by kernel_rfl))
  f295 := Tryz.func246.trans (congrArg some (by kernel_rfl))
  f296 := Tryz.func247.trans (congrArg some (by kernel_rfl))
  f297 := Tryz.func248.trans (congrArg some (by kernel_rfl))
  f298 := Tryz.func249.trans (congrArg some (by kernel_rfl))
  f299 := Tryz.func250.trans (congrArg some (by kernel_rfl))
  f300 := Tryz.func252.trans (congrArg some (by kernel_rfl))
  f301 := Tryz.func253.trans (congrArg some (by kernel_rfl))
  f328 := Tryz.func295.trans (congrArg some (by kernel_rfl))
  f329 := Tryz.func296.trans (congrArg some (by kernel_rfl))
  f330 := Tryz.func297.trans (congrArg some (by kernel_rfl))
  f331 := Tryz.func298.trans (congrArg some (by kernel_rfl))
  f332 := Tryz.func299.trans (congrArg some (by kernel_rfl))
  f343 := Tryz.func340.trans (congrArg some (by kernel_rfl))
  t0 := Tryz.underlying0
  a0 := Tryz.isAgg0
  z0 := Tryz.sizeOf0
  v0 := Tryz.zeroValue0
  t3 := Tryz.underlying3
  a3 := Tryz.isAgg3
  z3 := Tryz.sizeOf3
  v3 := Tryz.zeroValue3
  t4 := Tryz.underlying4
  a4 := Tryz.isAgg4
  z4 := Tryz.sizeOf4
  v4 := Tryz.zeroValue4
  t5 := Tryz.underlying5
  a5 := Tryz.isAgg5
  z5 := Tryz.sizeOf5
  v5 := Tryz.zeroValue5
  t9 := Tryz.underlying9
  a9 := Tryz.isAgg9
  z9 := Tryz.sizeOf9
  v9 := Tryz.zeroValue9
  t28 := Tryz.underlying45
  a28 := Tryz.isAgg45
  z28 := Tryz.sizeOf45
  v28 := Tryz.zeroValue45
  t46 := Tryz.underlying265
  a46 := Tryz.isAgg265
  z46 := Tryz.sizeOf265
  v46 := Tryz.zeroValue265
  t51 := Tryz.underlying370
  a51 := Tryz.isAgg370
  z51 := Tryz.sizeOf370
  v51 := Tryz.zeroValue370
  t53 := Tryz.underlying63
  a53 := Tryz.isAgg63
  z53 := Tryz.sizeOf63
  v53 := Tryz.zeroValue63
  t131 := Tryz.underlying90
  a131 := Tryz.isAgg90
  z131 := Tryz.sizeOf90
  v131 := Tryz.zeroValue90
  t182 := Tryz.underlying364
  a182 := Tryz.isAgg364
  z182 := Tryz.sizeOf364
  v182 := Tryz.zeroValue364
  t183 := Tryz.underlying365
  a183 := Tryz.isAgg365
  z183 := Tryz.sizeOf365
  v183 := Tryz.zeroValue365
  t218 := Tryz.underlying410
  a218 := Tryz.isAgg410
  z218 := Tryz.sizeOf410
  v218 := Tryz.zeroValue410
  t222 := Tryz.underlying414
  a222 := Tryz.isAgg414
  z222 := Tryz.sizeOf414
  v222 := Tryz.zeroValue414
  t228 := Tryz.underlying442
  a228 := Tryz.isAgg442
  z228 := Tryz.sizeOf442
  v228 := Tryz.zeroValue442
  t229 := Tryz.underlying111
  a229 := Tryz.isAgg111
  z229 := Tryz.sizeOf111
  v229 := Tryz.zeroValue111 }
open Go.Sort Go.RowKit in
theorem Tryz.slices_Sort_int (blk off cap : Nat) (zs : List Int) (w : World) (hH : Holds (Value.int .i64) w blk off zs.toArray) (hblk : blk < w.heap.size) (hsz : zs.length < 4611686018427387904) :
    Calls Tryz.prog 125 #[.slice (some ⟨blk, off, none⟩) zs.length cap] w fun e w' =>
      e = .returned (.tuple #[]) ∧ ∃ n os, w' = grow (putRow (Value.int .i64) (Sort.ahead w n) blk off (zs.mergeSort fun x y => decide (x ≤ y)).toArray) os := Any.slices_Sort_int Tryz.lays189 blk off cap zs w hH hblk hsz
def Tryz.laysGg6_ren : Go.Shelf.Ren := ⟨fun | 6 => 209 | 10 => 259 | 11 => 260 | 12 => 261 | 13 => 194 | 14 => 262 | 24 => 254 | 25 => 255 | 26 => 310 | 27 => 311 | 28 => 312 | 29 => 313 | 30 => 314 | 31 => 315 | 32 => 316 | 33 => 317 | 34 => 341 | 35 => 342 | 36 => 343 | 37 => 344 | 38 => 345 | 39 => 372 | n => n, fun | 20 => 20 | 26 => 279 | 35 => 376 | 0 => 0 | 37 => 315 | 3 => 3 | 41 => 265 | 44 => 382 | 49 => 370 | 51 => 63 | 4 => 4 | 54 => 421 | 53 => 420 | 58 => 90 | 5 => 5 | 9 => 9 | 60 => 444 | 64 => 414 | 66 => 468 | 67 => 111 | 17 => 17 | 32 => 373 | 33 => 374 | 82 => 491 | 12 => 12 | 75 => 484 | 76 => 485 | 77 => 486 | 78 => 487 | 79 => 488 | 80 => 489 | n => n, fun | n => n⟩
theorem Tryz.laysGg6 : Go.Proofs.LaysGg.n6 Tryz.prog Tryz.laysGg6_ren := {
  mixed := by kernel_rfl
  f6 := Tryz.func209.trans (congrArg some (by kernel_rfl))
  f10 := Tryz.func259.trans (congrArg some (by kernel_rfl))
  f11 := Tryz.func260.trans (congrArg some (by kernel_rfl))
  f12 := Tryz.func261.trans (congrArg some (by kernel_rfl))
  f13 := Tryz.func194.trans (congrArg some (by kernel_rfl))
  f14 := Tryz.func262.trans (congrArg some (by kernel_rfl))
  f24 := Tryz.func254.trans (congrArg some (by kernel_rfl))
  f25 := Tryz.func255.trans (congrArg some (by kernel_rfl))
  f26 := Tryz.func310.trans (congrArg some (by kernel_rfl))
  f27 := Tryz.func311.trans (congrArg some (by kernel_rfl))
  f28 := Tryz.func312.trans (congrArg some (by kernel_rfl))
  f29 := Tryz.func313.trans (congrArg some (by kernel_rfl))
  f30 := Tryz.func314.trans (congrArg some (by kernel_rfl))
  f31 := Tryz.func315.trans (congrArg some (by kernel_rfl))
  f32 := Tryz.func316.trans (congrArg some (by kernel_rfl))
  f33 := Tryz.func317.trans (congrArg some (by kernel_rfl))
  f34 := Tryz.func341.trans (congrArg some (by kernel_rfl))
  f35 := Tryz.func342.trans (congrArg some (by kernel_rfl))
  f36 := Tryz.func343.trans (congrArg some (by kernel_rfl))
  f37 := Tryz.func344.trans (congrArg some (by kernel_rfl))
  f38 := Tryz.func345.trans (congrArg some (by kernel_rfl))
  f39 := Tryz.func372.trans (congrArg some (by kernel_rfl))
  t0 := Tryz.underlying0
  a0 := Tryz.isAgg0
  z0 := Tryz.sizeOf0
  v0 := Tryz.zeroValue0
  i0 := by kernel_rfl
  t3 := Tryz.underlying3
  a3 := Tryz.isAgg3
  z3 := Tryz.sizeOf3
  v3 := Tryz.zeroValue3
  i3 := by kernel_rfl
  t4 := Tryz.underlying4
  a4 := Tryz.isAgg4
  z4 := Tryz.sizeOf4
  v4 := Tryz.zeroValue4
  i4 := by kernel_rfl
  t5 := Tryz.underlying5
  a5 := Tryz.isAgg5
  z5 := Tryz.sizeOf5
  v5 := Tryz.zeroValue5
  i5 := by kernel_rfl
  t9 := Tryz.underlying9
  a9 := Tryz.isAgg9
  z9 := Tryz.sizeOf9
  v9 := Tryz.zeroValue9
  i9 := by kernel_rfl
  t12 := Tryz.underlying12
  a12 := Tryz.isAgg12
  z12 := Tryz.sizeOf12
  v12 := Tryz.zeroValue12
  i12 := by kernel_rfl
  t17 := Tryz.underlying17
  a17 := Tryz.isAgg17
  z17 := Tryz.sizeOf17
  v17 := Tryz.zeroValue17
  i17 := by kernel_rfl
  t20 := Tryz.underlying20
  a20 := Tryz.isAgg20
  z20 := Tryz.sizeOf20
  v20 := Tryz.zeroValue20
  i20 := by kernel_rfl
  t26 := Tryz.underlying279
  a26 := Tryz.isAgg279
  z26 := Tryz.sizeOf279
  v26 := Tryz.zeroValue279
  i26 := by kernel_rfl
  t32 := Tryz.underlying373
  a32 := Tryz.isAgg373
  z32 := Tryz.sizeOf373
  v32 := Tryz.zeroValue373
  i32 := by kernel_rfl
  t33 := Tryz.underlying374
  a33 := Tryz.isAgg374
  z33 := Tryz.sizeOf374
  v33 := Tryz.zeroValue374
  i33 := by kernel_rfl
  t35 := Tryz.underlying376
  a35 := Tryz.isAgg376
  z35 := Tryz.sizeOf376
  v35 := Tryz.zeroValue376
  i35 := by kernel_rfl
  t37 := Tryz.underlying315
  a37 := Tryz.isAgg315
  z37 := Tryz.sizeOf315
  v37 := Tryz.zeroValue315
  i37 := by kernel_rfl
  t41 := Tryz.underlying265
  a41 := Tryz.isAgg265
  z41 := Tryz.sizeOf265
  v41 := Tryz.zeroValue265
  i41 := by kernel_rfl
  t44 := Tryz.underlying382
  a44 := Tryz.isAgg382
  z44 := Tryz.sizeOf382
  v44 := Tryz.zeroValue382
  i44 := by kernel_rfl
  t49 := Tryz.underlying370
  a49 := Tryz.isAgg370
  z49 := Tryz.sizeOf370
  v49 := Tryz.zeroValue370
  i49 := by kernel_rfl
  t51 := Tryz.underlying63
  a51 := Tryz.isAgg63
  z51 := Tryz.sizeOf63
  v51 := Tryz.zeroValue63
  i51 := by kernel_rfl
  t53 := Tryz.underlying420
  a53 := Tryz.isAgg420
  z53 := Tryz.sizeOf420
  v53 := Tryz.zeroValue420
  i53 := by kernel_rfl
  t54 := Tryz.underlying421
  a54 := Tryz.isAgg421
  z54 := Tryz.sizeOf421
  v54 := Tryz.zeroValue421
  i54 := by kernel_rfl
  t58 := Tryz.underlying90
  a58 := Tryz.isAgg90
  z58 := Tryz.sizeOf90
  v58 := Tryz.zeroValue90
  i58 := by kernel_rfl
  t60 := Tryz.underlying444
  a60 := Tryz.isAgg444
  z60 := Tryz.sizeOf444
  v60 := Tryz.zeroValue444
  i60 := by kernel_rfl
  t64 := Tryz.underlying414
  a64 := Tryz.isAgg414
  z64 := Tryz.sizeOf414
  v64 := Tryz.zeroValue414
  i64 := by kernel_rfl
  t66 := Tryz.underlying468
  a66 := Tryz.isAgg468
  z66 := Tryz.sizeOf468
  v66 := Tryz.zeroValue468
  i66 := by kernel_rfl
  t67 := Tryz.underlying111
  a67 := Tryz.isAgg111
  z67 := Tryz.sizeOf111
  v67 := Tryz.zeroValue111
  i67 := by kernel_rfl
  t75 := Tryz.underlying484
  a75 := Tryz.isAgg484
  z75 := Tryz.sizeOf484
  v75 := Tryz.zeroValue484
  i75 := by kernel_rfl
  t76 := Tryz.underlying485
  a76 := Tryz.isAgg485
  z76 := Tryz.sizeOf485
  v76 := Tryz.zeroValue485
  i76 := by kernel_rfl
  t77 := Tryz.underlying486
  a77 := Tryz.isAgg486
  z77 := Tryz.sizeOf486
  v77 := Tryz.zeroValue486
  i77 := by kernel_rfl
  t78 := Tryz.underlying487
  a78 := Tryz.isAgg487
  z78 := Tryz.sizeOf487
  v78 := Tryz.zeroValue487
  i78 := by kernel_rfl
  t79 := Tryz.underlying488
  a79 := Tryz.isAgg488
  z79 := Tryz.sizeOf488
  v79 := Tryz.zeroValue488
  i79 := by kernel_rfl
  t80 := Tryz.underlying489
  a80 := Tryz.isAgg489
  z80 := Tryz.sizeOf489
  v80 := Tryz.zeroValue489
  i80 := by kernel_rfl
  t82 := Tryz.underlying491
  a82 := Tryz.isAgg491
  z82 := Tryz.sizeOf491
  v82 := Tryz.zeroValue491
  i82 := by kernel_rfl }
def Tryz.lays99_ren : Go.Shelf.Ren := ⟨fun | 99 => 216 | 206 => 275 | n => n, fun | 9 => 9 | 4 => 4 | 3 => 3 | n => n, fun | n => n⟩
theorem Tryz.lays99 : Go.Proofs.Lays.n99 Tryz.prog Tryz.lays99_ren := {
  mixed := by kernel_rfl
  f99 := Tryz.func216.trans (congrArg some (by kernel_rfl))
  f206 := Tryz.func275.trans (congrArg some (by kernel_rfl))
  t3 := Tryz.underlying3
  a3 := Tryz.isAgg3
  z3 := Tryz.sizeOf3
  v3 := Tryz.zeroValue3
  t4 := Tryz.underlying4
  a4 := Tryz.isAgg4
  z4 := Tryz.sizeOf4
  v4 := Tryz.zeroValue4
  t9 := Tryz.underlying9
  a9 := Tryz.isAgg9
  z9 := Tryz.sizeOf9
  v9 := Tryz.zeroValue9 }
open Go.RowKit Go.Lib in
/-- strings.HasPrefix: "HasPrefix reports whether the string s begins with prefix.": IT RETURNS 'Lib.hasPrefix s prefix'; the world is as it was. (LAID: no walk: one application.) -/
theorem Tryz.strings_HasPrefix (s p : ByteArray) (w : World) :
    Calls Tryz.prog 216 #[.string s, .string p] w fun e w' => e = .returned (.bool (Lib.hasPrefix s.data.toList p.data.toList)) ∧ w' = w := Any.strings_HasPrefix Tryz.lays99 s p w
def Tryz.lays264_ren : Go.Shelf.Ren := ⟨fun | 264 => 87 | n => n, fun | 53 => 63 | 46 => 265 | n => n, fun | n => n⟩
theorem Tryz.lays264 : Go.Proofs.Lays.n264 Tryz.prog Tryz.lays264_ren := {
  mixed := by kernel_rfl
  f264 := Tryz.func87.trans (congrArg some (by kernel_rfl))
  t46 := Tryz.underlying265
  a46 := Tryz.isAgg265
  z46 := Tryz.sizeOf265
  v46 := Tryz.zeroValue265
  t53 := Tryz.underlying63
  a53 := Tryz.isAgg63
  z53 := Tryz.sizeOf63
  v53 := Tryz.zeroValue63 }
open Go.RowKit Go.Lib in
theorem Tryz.bits_Mul64 (x y : Nat) (hx : x < 18446744073709551616) (hy : y < 18446744073709551616) (w : World) :
    Calls Tryz.prog 87 #[.int .u64 x, .int .u64 y] w fun e w' => e = .returned (.tuple #[.int .u64 ((x * y / 18446744073709551616 : Nat) : Int), .int .u64 ((x * y % 18446744073709551616 : Nat) : Int)]) ∧ w' = w := Any.bits_Mul64 Tryz.lays264 x y hx hy w
def Tryz.lays108_ren : Go.Shelf.Ren := ⟨fun | 108 => 142 | n => n, fun | 28 => 45 | 3 => 3 | 0 => 0 | 4 => 4 | n => n, fun | n => n⟩
theorem Tryz.lays108 : Go.Proofs.Lays.n108 Tryz.prog Tryz.lays108_ren := {
  mixed := by kernel_rfl
  f108 := Tryz.func142.trans (congrArg some (by kernel_rfl))
  t0 := Tryz.underlying0
  a0 := Tryz.isAgg0
  z0 := Tryz.sizeOf0
  v0 := Tryz.zeroValue0
  t3 := Tryz.underlying3
  a3 := Tryz.isAgg3
  z3 := Tryz.sizeOf3
  v3 := Tryz.zeroValue3
  t4 := Tryz.underlying4
  a4 := Tryz.isAgg4
  z4 := Tryz.sizeOf4
  v4 := Tryz.zeroValue4
  t28 := Tryz.underlying45
  a28 := Tryz.isAgg45
  z28 := Tryz.sizeOf45
  v28 := Tryz.zeroValue45 }
open Go.Lib in
/-- slices.Index at []int: "Index returns the index of the first occurrence of v in s, or -1 if not present.": IT RETURNS 'Lib.idxOf (the elements) v'; the world is as it was. 'zs': what the cells behind the slice's address hold (its spare capacity too, if you have it); 'zs.take n': its elements. (LAID: no walk: one application.) -/
theorem Tryz.slices_Index_int (b off n c : Nat) (zs : List Int) (x : Int) (w : World) (hz : n ≤ zs.length) (hbig : n ≤ 9223372036854775807) (hc : ∀ j, j < zs.length → w.cell? ⟨b, off + j, none⟩ = some (.int .i64 (zs.getD j 0))) :
    Calls Tryz.prog 142 #[.slice (some ⟨b, off, none⟩) n c, .int .i64 x] w fun e w' => e = .returned (.int .i64 (Lib.idxOf (zs.take n) x)) ∧ w' = w := Any.slices_Index_int Tryz.lays108 b off n c zs x w hz hbig hc
def Tryz.lays107_ren : Go.Shelf.Ren := ⟨fun | 107 => 79 | 108 => 142 | n => n, fun | 28 => 45 | 3 => 3 | 4 => 4 | 0 => 0 | n => n, fun | n => n⟩
theorem Tryz.lays107 : Go.Proofs.Lays.n107 Tryz.prog Tryz.lays107_ren := {
  mixed := by kernel_rfl
  f107 := Tryz.func79.trans (congrArg some (by kernel_rfl))
  f108 := Tryz.func142.trans (congrArg some (by kernel_rfl))
  t0 := Tryz.underlying0
  a0 := Tryz.isAgg0
  z0 := Tryz.sizeOf0
  v0 := Tryz.zeroValue0
  t3 := Tryz.underlying3
  a3 := Tryz.isAgg3
  z3 := Tryz.sizeOf3
  v3 := Tryz.zeroValue3
  t4 := Tryz.underlying4
  a4 := Tryz.isAgg4
  z4 := Tryz.sizeOf4
  v4 := Tryz.zeroValue4
  t28 := Tryz.underlying45
  a28 := Tryz.isAgg45
  z28 := Tryz.sizeOf45
  v28 := Tryz.zeroValue45 }
open Go.Lib in
/-- slices.Contains at []int: "Contains reports whether v is present in s.": IT RETURNS 'elements.contains v'; the world is as it was. ITS CALLEE slices.Index IS MET BY ITS OWN CONTRACT OFF THE SHELF (lay that first): no loop is walked here. (LAID: no walk: one application.) -/
theorem Tryz.slices_Contains_int (b off n c : Nat) (zs : List Int) (x : Int) (w : World) (hz : n ≤ zs.length) (hbig : n ≤ 9223372036854775807) (hc : ∀ j, j < zs.length → w.cell? ⟨b, off + j, none⟩ = some (.int .i64 (zs.getD j 0))) :
    Calls Tryz.prog 79 #[.slice (some ⟨b, off, none⟩) n c, .int .i64 x] w fun e w' => e = .returned (.bool ((zs.take n).contains x)) ∧ w' = w := Any.slices_Contains_int Tryz.lays107 b off n c zs x w hz hbig hc
def Tryz.lays112_ren : Go.Shelf.Ren := ⟨fun | 112 => 265 | n => n, fun | 28 => 45 | 3 => 3 | 4 => 4 | 0 => 0 | n => n, fun | n => n⟩
theorem Tryz.lays112 : Go.Proofs.Lays.n112 Tryz.prog Tryz.lays112_ren := {
  mixed := by kernel_rfl
  f112 := Tryz.func265.trans (congrArg some (by kernel_rfl))
  t0 := Tryz.underlying0
  a0 := Tryz.isAgg0
  z0 := Tryz.sizeOf0
  v0 := Tryz.zeroValue0
  t3 := Tryz.underlying3
  a3 := Tryz.isAgg3
  z3 := Tryz.sizeOf3
  v3 := Tryz.zeroValue3
  t4 := Tryz.underlying4
  a4 := Tryz.isAgg4
  z4 := Tryz.sizeOf4
  v4 := Tryz.zeroValue4
  t28 := Tryz.underlying45
  a28 := Tryz.isAgg45
  z28 := Tryz.sizeOf45
  v28 := Tryz.zeroValue45 }
open Go.RowKit Go.Lib Go.Sort in
/-- The same at a slice of length 0, a nil one too: nothing is read, nothing written, nothing drawn. (LAID: no walk: one application.) -/
theorem Tryz.slices_Reverse_int_empty (a : Option Addr) (cap : Nat) (w : World) :
    Calls Tryz.prog 265 #[.slice a 0 cap] w fun e w' => e = .returned (.tuple #[]) ∧ w' = w := Any.slices_Reverse_int_empty Tryz.lays112 a cap w
def Tryz.lays111_ren : Go.Shelf.Ren := ⟨fun | 111 => 238 | n => n, fun | 28 => 45 | 3 => 3 | 4 => 4 | 0 => 0 | n => n, fun | n => n⟩
theorem Tryz.lays111 : Go.Proofs.Lays.n111 Tryz.prog Tryz.lays111_ren := {
  mixed := by kernel_rfl
  f111 := Tryz.func238.trans (congrArg some (by kernel_rfl))
  t0 := Tryz.underlying0
  a0 := Tryz.isAgg0
  z0 := Tryz.sizeOf0
  v0 := Tryz.zeroValue0
  t3 := Tryz.underlying3
  a3 := Tryz.isAgg3
  z3 := Tryz.sizeOf3
  v3 := Tryz.zeroValue3
  t4 := Tryz.underlying4
  a4 := Tryz.isAgg4
  z4 := Tryz.sizeOf4
  v4 := Tryz.zeroValue4
  t28 := Tryz.underlying45
  a28 := Tryz.isAgg45
  z28 := Tryz.sizeOf45
  v28 := Tryz.zeroValue45 }
open Go.RowKit Go.Lib in
/-- slices.Equal at []int: "Equal reports whether two slices are equal: the same length and all elements equal. If the lengths are different, Equal returns false. Otherwise, the elements are compared in increasing index order, and the comparison stops at the first unequal pair. Empty and nil slices are considered equal.": IT RETURNS WHETHER THE TWO LISTS OF ELEMENTS ARE ONE; the world is as it was but for the count of draws (the test 's1[i] != s2[i]' has two reads, whose order the model draws, once a round). 'xs', 'ys': what the cells behind the two addresses hold (the spare capacity too, if you have it); 'xs.take n', 'ys.take m': the elements. THE TWO SLICES MAY OVERLAP. (LAID: no walk: one application.) -/
theorem Tryz.slices_Equal_int (b1 o1 n c b2 o2 m d : Nat) (xs ys : List Int) (w : World) (hx : n ≤ xs.length) (hy : m ≤ ys.length) (hbig : n ≤ 9223372036854775807) (hbig2 : m ≤ 9223372036854775807) (hc1 : ∀ j, j < xs.length → w.cell? ⟨b1, o1 + j, none⟩ = some (.int .i64 (xs.getD j 0))) (hc2 : ∀ j, j < ys.length → w.cell? ⟨b2, o2 + j, none⟩ = some (.int .i64 (ys.getD j 0))) :
    Calls Tryz.prog 238 #[.slice (some ⟨b1, o1, none⟩) n c, .slice (some ⟨b2, o2, none⟩) m d] w fun e w' => e = .returned (.bool (xs.take n == ys.take m)) ∧ ∃ q, w' = w.drewN q := Any.slices_Equal_int Tryz.lays111 b1 o1 n c b2 o2 m d xs ys w hx hy hbig hbig2 hc1 hc2
def Tryz.laysNm215_ren : Go.Shelf.Ren := ⟨fun | 15 => 66 | n => n, fun | 22 => 45 | 3 => 3 | 4 => 4 | n => n, fun | n => n⟩
theorem Tryz.laysNm215 : Go.Proofs.Lays2.n15 Tryz.prog Tryz.laysNm215_ren := {
  mixed := by kernel_rfl
  f15 := Tryz.func66.trans (congrArg some (by kernel_rfl))
  t3 := Tryz.underlying3
  a3 := Tryz.isAgg3
  z3 := Tryz.sizeOf3
  v3 := Tryz.zeroValue3
  t4 := Tryz.underlying4
  a4 := Tryz.isAgg4
  z4 := Tryz.sizeOf4
  v4 := Tryz.zeroValue4
  t22 := Tryz.underlying45
  a22 := Tryz.isAgg45
  z22 := Tryz.sizeOf45
  v22 := Tryz.zeroValue45
  i3 := by kernel_rfl }
open Go.RowKit Go.Lib in
/-- slices.Clone at []int: "Clone returns a copy of the slice. The elements are copied using assignment, so this is a shallow clone. The result may have additional unused capacity. The result preserves the nilness of s.": OF A SLICE THAT IS NOT nil IT RETURNS A SLICE THAT IS NOT nil, OF THE SAME ELEMENTS, IN MEMORY OF THE CALL's OWN: in the how-to's words (6f): 'w'.ownsRow B e 1 v' n cells': v' begins at the head of a row among the blocks from B on (B: the heap's size at the call), not frozen, whose first cells are the elements · 'Below B w w'': below B all is as it was. The capacity is whatever the run-time gives. 'zs': what the cells behind the slice's address hold; 'zs.take n': its elements. (LAID: no walk: one application.) -/
theorem Tryz.slices_Clone_int (b off n c : Nat) (zs : List Int) (w : World) (hz : n ≤ zs.length) (hbig : n * 8 ≤ 140737488355328) (hc : ∀ j, j < zs.length → w.cell? ⟨b, off + j, none⟩ = some (.int .i64 (zs.getD j 0))) :
    Calls Tryz.prog 66 #[.slice (some ⟨b, off, none⟩) n c] w fun e w' => ∃ v', e = .returned v' ∧ w'.ownsRow w.heap.size 3 1 v' n ((zs.take n).map (Value.int .i64)) ∧ v' ≠ .slice none 0 0 ∧ Below w.heap.size w w' := Any.slices_Clone_int Tryz.laysNm215 b off n c zs w hz hbig hc
open Go.RowKit Go.Lib in
/-- The same at nil: nil comes back; the world is as it was. (LAID: no walk: one application.) -/
theorem Tryz.slices_Clone_int_nil (n c : Nat) (w : World) :
    Calls Tryz.prog 66 #[.slice none n c] w fun e w' => e = .returned (.slice none 0 0) ∧ w' = w := Any.slices_Clone_int_nil Tryz.laysNm215 n c w
open Go.RowKit Go.Lib in
/-- The same at a slice of length 0 that is not nil, WHATEVER ITS ADDRESS (no cell is asked for): a slice that is not nil and owns nothing comes back. (LAID: no walk: one application.) -/
theorem Tryz.slices_Clone_int_zero (a : Addr) (c : Nat) (w : World) :
    Calls Tryz.prog 66 #[.slice (some a) 0 c] w fun e w' => ∃ v', e = .returned v' ∧ w'.ownsRow w.heap.size 3 1 v' 0 [] ∧ v' ≠ .slice none 0 0 ∧ Below w.heap.size w w' := Any.slices_Clone_int_zero Tryz.laysNm215 a c w
def Tryz.laysNm220_ren : Go.Shelf.Ren := ⟨fun | 20 => 126 | n => n, fun | 22 => 45 | 3 => 3 | 4 => 4 | 0 => 0 | n => n, fun | n => n⟩
theorem Tryz.laysNm220 : Go.Proofs.Lays2.n20 Tryz.prog Tryz.laysNm220_ren := {
  mixed := by kernel_rfl
  f20 := Tryz.func126.trans (congrArg some (by kernel_rfl))
  t0 := Tryz.underlying0
  a0 := Tryz.isAgg0
  z0 := Tryz.sizeOf0
  v0 := Tryz.zeroValue0
  t3 := Tryz.underlying3
  a3 := Tryz.isAgg3
  z3 := Tryz.sizeOf3
  v3 := Tryz.zeroValue3
  t4 := Tryz.underlying4
  a4 := Tryz.isAgg4
  z4 := Tryz.sizeOf4
  v4 := Tryz.zeroValue4
  t22 := Tryz.underlying45
  a22 := Tryz.isAgg45
  z22 := Tryz.sizeOf45
  v22 := Tryz.zeroValue45
  i3 := by kernel_rfl }
open Go.RowKit Go.Lib Go.Sort in
/-- slices.Compact at []int: "Compact replaces consecutive runs of equal elements with a single copy. This is like the uniq command found on Unix. Compact modifies the contents of the slice s and returns the modified slice, which may have a smaller length. Compact zeroes the elements between the new length and the original length. The result preserves the nilness of s.": IT RETURNS THE SLICE CUT TO 'Lib.compact zs'; ITS CELLS HOLD 'Lib.compact zs', THEN ZERO VALUES up to the old length; all else is as it was, but for the count of draws. IN THE WORDS OF slices.Sort's CONTRACT ('Holds', 'putRow'): so the everyday 'slices.Sort(xs); xs = slices.Compact(xs)' goes from the one contract to the other. It asks 'zs.length ≤ cap' (every slice's: the reslicing 's[:k]' looks at it). Length 0, nil: '.._empty'. (LAID: no walk: one application.) -/
theorem Tryz.slices_Compact_int (blk off cap : Nat) (zs : List Int) (w : World) (hH : Holds (Value.int .i64) w blk off zs.toArray) (hsz : zs.length ≤ 9223372036854775807) (hcap : zs.length ≤ cap) :
    Calls Tryz.prog 126 #[.slice (some ⟨blk, off, none⟩) zs.length cap] w fun e w' => e = .returned (.slice (some ⟨blk, off, none⟩) (Lib.compact zs).length cap) ∧ ∃ q, w' = putRow (Value.int .i64) (Sort.ahead w q) blk off (Lib.compact zs ++ List.replicate (zs.length - (Lib.compact zs).length) 0).toArray := Any.slices_Compact_int Tryz.laysNm220 blk off cap zs w hH hsz hcap
open Go.RowKit Go.Lib Go.Sort in
/-- The same at a slice of length 0, a nil one too: it comes back as it is. (LAID: no walk: one application.) -/
theorem Tryz.slices_Compact_int_empty (a : Option Addr) (cap : Nat) (w : World) :
    Calls Tryz.prog 126 #[.slice a 0 cap] w fun e w' => e = .returned (.slice a 0 cap) ∧ w' = w := Any.slices_Compact_int_empty Tryz.laysNm220 a cap w
open Go.RowKit Go.Sort in
/-- .. and plain. (LAID: no walk: one application.) -/
theorem Tryz.slices_Sort_int_none (p : Option Addr) (cap : Nat) (w : World) :
    Calls Tryz.prog 125 #[.slice p 0 cap] w fun e w' => e = .returned (.tuple #[]) ∧ w' = w := Any.slices_Sort_int_none Tryz.lays189 p cap w
end Go.Proofs
