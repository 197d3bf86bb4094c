/-
  DERIVED: THE SHELF's CONTRACTS AT THIS DUMP, IN PLAIN WORDS (tools/lay-plain.mjs out of 'TryzIter.lean', which tools/lay-shelf.mjs wrote): THE SAME DECLARATIONS UNDER THE SAME NAMES: 'import', 'namespace', 'open', 'def', 'theorem' AND NOTHING ELSE: no command of the shelf's: FOR A HAND-IN. Each laying: the table of numbers ('.._ren') and one theorem, a field a fact of the dump's own or the kernel's comparison; each contract: ONE APPLICATION.
-/
import Derived.Shelf.SlIterI.Nil
import Derived.Shelf.SortM.Plain
import Derived.Shelf.SortM.SortNone
import Derived.Ground.GgzProg
import Derived.Ground.SlgmProg
import Derived.Shelf.SlGeneric
import Derived.Test.YtnlopdmhdiegnaaGreatDoorProg
namespace Go.Proofs
open Go.Shelf
def Tryz.keysA_ren : Go.Shelf.Ren := ⟨fun | 7 => 135 | 10 => 201 | n => n, fun | 23 => 240 | 26 => 3 | 3 => 3 | 28 => 245 | 0 => 0 | 27 => 244 | 33 => 105 | 4 => 4 | n => n, fun | n => n⟩
theorem Tryz.keysA : Go.Proofs.SlLaysZI.n7 Tryz.prog Tryz.keysA_ren := {
  mixed := by kernel_rfl
  f7 := ⟨Tryz.f135.name, by decide, Tryz.func135.trans (congrArg some (by kernel_rfl))⟩
  f10 := ⟨Tryz.f201.name, by decide, Tryz.func201.trans (congrArg some (by kernel_rfl))⟩
  t0 := Tryz.underlying0
  a0 := Tryz.isAgg0
  z0 := Tryz.sizeOf0
  v0 := Tryz.zeroValue0
  t4 := Tryz.underlying4
  a4 := Tryz.isAgg4
  z4 := Tryz.sizeOf4
  v4 := Tryz.zeroValue4
  t23 := Tryz.underlying240
  a23 := Tryz.isAgg240
  z23 := Tryz.sizeOf240
  v23 := Tryz.zeroValue240
  t26 := Tryz.underlying3
  a26 := Tryz.isAgg3
  z26 := Tryz.sizeOf3
  v26 := Tryz.zeroValue3
  t27 := Tryz.underlying244
  a27 := Tryz.isAgg244
  z27 := Tryz.sizeOf244
  v27 := Tryz.zeroValue244
  t28 := Tryz.underlying245
  a28 := Tryz.isAgg245
  z28 := Tryz.sizeOf245
  v28 := Tryz.zeroValue245
  t33 := Tryz.underlying105
  a33 := Tryz.isAgg105
  z33 := Tryz.sizeOf105
  v33 := Tryz.zeroValue105 }
def Tryz.sortedA_ren : Go.Shelf.Ren := ⟨fun | 6 => 134 | 8 => 200 | 9 => 125 | 11 => 258 | 13 => 194 | 12 => 193 | 23 => 254 | 24 => 255 | 14 => 245 | 15 => 246 | 16 => 247 | 17 => 248 | 18 => 249 | 19 => 250 | 20 => 251 | 21 => 252 | 22 => 253 | 25 => 295 | 26 => 296 | 27 => 297 | 28 => 298 | 29 => 299 | 30 => 300 | 31 => 340 | n => n, fun | 26 => 3 | 28 => 245 | 24 => 45 | 0 => 0 | 3 => 3 | 37 => 265 | 48 => 370 | 50 => 63 | 4 => 4 | 40 => 365 | 39 => 364 | 45 => 90 | 5 => 5 | 9 => 9 | 51 => 410 | 55 => 414 | 57 => 442 | 58 => 111 | 33 => 105 | n => n, fun | n => n⟩
theorem Tryz.sortedA : Go.Proofs.SlLaysZI.n6 Tryz.prog Tryz.sortedA_ren := {
  mixed := by kernel_rfl
  f6 := ⟨Tryz.f134.name, by decide, Tryz.func134.trans (congrArg some (by kernel_rfl))⟩
  f8 := ⟨Tryz.f200.name, by decide, Tryz.func200.trans (congrArg some (by kernel_rfl))⟩
  f11 := ⟨Tryz.f258.name, by decide, Tryz.func258.trans (congrArg some (by kernel_rfl))⟩
  t0 := Tryz.underlying0
  a0 := Tryz.isAgg0
  z0 := Tryz.sizeOf0
  v0 := Tryz.zeroValue0
  t24 := Tryz.underlying45
  a24 := Tryz.isAgg45
  z24 := Tryz.sizeOf45
  v24 := Tryz.zeroValue45
  t26 := Tryz.underlying3
  a26 := Tryz.isAgg3
  z26 := Tryz.sizeOf3
  v26 := Tryz.zeroValue3
  t28 := Tryz.underlying245
  a28 := Tryz.isAgg245
  z28 := Tryz.sizeOf245
  v28 := Tryz.zeroValue245
  i26 := by kernel_rfl }
def Tryz.sortA_ren : Go.Shelf.Ren := ⟨fun | 5 => 125 | 8 => 194 | 7 => 193 | 19 => 254 | 20 => 255 | 10 => 245 | 11 => 246 | 12 => 247 | 13 => 248 | 14 => 249 | 15 => 250 | 16 => 251 | 17 => 252 | 18 => 253 | 30 => 295 | 31 => 296 | 32 => 297 | 33 => 298 | 34 => 299 | 35 => 300 | 40 => 340 | n => n, fun | 23 => 45 | 25 => 3 | 3 => 3 | 32 => 265 | 22 => 45 | 0 => 0 | 44 => 370 | 46 => 63 | 4 => 4 | 36 => 365 | 35 => 364 | 41 => 90 | 5 => 5 | 9 => 9 | 53 => 410 | 57 => 414 | 63 => 442 | 64 => 111 | n => n, fun | n => n⟩
theorem Tryz.sortA : Go.Proofs.SlLaysM.n5 Tryz.prog Tryz.sortA_ren := {
  mixed := by kernel_rfl
  f5 := ⟨Tryz.f125.name, by decide, Tryz.func125.trans (congrArg some (by kernel_rfl))⟩
  f7 := ⟨Tryz.f193.name, by decide, Tryz.func193.trans (congrArg some (by kernel_rfl))⟩
  f8 := Tryz.func194.trans (congrArg some (by kernel_rfl))
  f10 := ⟨Tryz.f245.name, by decide, Tryz.func245.trans (congrArg some (by kernel_rfl))⟩
  f11 := ⟨Tryz.f246.name, by decide, Tryz.func246.trans (congrArg some (by kernel_rfl))⟩
  f12 := ⟨Tryz.f247.name, by decide, Tryz.func247.trans (congrArg some (by kernel_rfl))⟩
  f13 := ⟨Tryz.f248.name, by decide, Tryz.func248.trans (congrArg some (by kernel_rfl))⟩
  f14 := ⟨Tryz.f249.name, by decide, Tryz.func249.trans (congrArg some (by kernel_rfl))⟩
  f15 := ⟨Tryz.f250.name, by decide, Tryz.func250.trans (congrArg some (by kernel_rfl))⟩
  f16 := ⟨Tryz.f251.name, by decide, Tryz.func251.trans (congrArg some (by kernel_rfl))⟩
  f17 := ⟨Tryz.f252.name, by decide, Tryz.func252.trans (congrArg some (by kernel_rfl))⟩
  f18 := ⟨Tryz.f253.name, by decide, Tryz.func253.trans (congrArg some (by kernel_rfl))⟩
  f19 := Tryz.func254.trans (congrArg some (by kernel_rfl))
  f20 := Tryz.func255.trans (congrArg some (by kernel_rfl))
  f30 := ⟨Tryz.f295.name, by decide, Tryz.func295.trans (congrArg some (by kernel_rfl))⟩
  f31 := Tryz.func296.trans (congrArg some (by kernel_rfl))
  f32 := Tryz.func297.trans (congrArg some (by kernel_rfl))
  f33 := ⟨Tryz.f298.name, by decide, Tryz.func298.trans (congrArg some (by kernel_rfl))⟩
  f34 := ⟨Tryz.f299.name, by decide, Tryz.func299.trans (congrArg some (by kernel_rfl))⟩
  f35 := ⟨Tryz.f300.name, by decide, Tryz.func300.trans (congrArg some (by kernel_rfl))⟩
  f40 := ⟨Tryz.f340.name, by decide, Tryz.func340.trans (congrArg some (by kernel_rfl))⟩
  t0 := Tryz.underlying0
  a0 := Tryz.isAgg0
  z0 := Tryz.sizeOf0
  v0 := Tryz.zeroValue0
  t3 := Tryz.underlying3
  a3 := Tryz.isAgg3
  z3 := Tryz.sizeOf3
  v3 := Tryz.zeroValue3
  t4 := Tryz.underlying4
  a4 := Tryz.isAgg4
  z4 := Tryz.sizeOf4
  v4 := Tryz.zeroValue4
  t5 := Tryz.underlying5
  a5 := Tryz.isAgg5
  z5 := Tryz.sizeOf5
  v5 := Tryz.zeroValue5
  t9 := Tryz.underlying9
  a9 := Tryz.isAgg9
  z9 := Tryz.sizeOf9
  v9 := Tryz.zeroValue9
  t22 := Tryz.underlying45
  a22 := Tryz.isAgg45
  z22 := Tryz.sizeOf45
  v22 := Tryz.zeroValue45
  t23 := Tryz.underlying45
  a23 := Tryz.isAgg45
  z23 := Tryz.sizeOf45
  v23 := Tryz.zeroValue45
  t25 := Tryz.underlying3
  a25 := Tryz.isAgg3
  z25 := Tryz.sizeOf3
  v25 := Tryz.zeroValue3
  t32 := Tryz.underlying265
  a32 := Tryz.isAgg265
  z32 := Tryz.sizeOf265
  v32 := Tryz.zeroValue265
  t35 := Tryz.underlying364
  a35 := Tryz.isAgg364
  z35 := Tryz.sizeOf364
  v35 := Tryz.zeroValue364
  t36 := Tryz.underlying365
  a36 := Tryz.isAgg365
  z36 := Tryz.sizeOf365
  v36 := Tryz.zeroValue365
  t41 := Tryz.underlying90
  a41 := Tryz.isAgg90
  z41 := Tryz.sizeOf90
  v41 := Tryz.zeroValue90
  t44 := Tryz.underlying370
  a44 := Tryz.isAgg370
  z44 := Tryz.sizeOf370
  v44 := Tryz.zeroValue370
  t46 := Tryz.underlying63
  a46 := Tryz.isAgg63
  z46 := Tryz.sizeOf63
  v46 := Tryz.zeroValue63
  t53 := Tryz.underlying410
  a53 := Tryz.isAgg410
  z53 := Tryz.sizeOf410
  v53 := Tryz.zeroValue410
  t57 := Tryz.underlying414
  a57 := Tryz.isAgg414
  z57 := Tryz.sizeOf414
  v57 := Tryz.zeroValue414
  t63 := Tryz.underlying442
  a63 := Tryz.isAgg442
  z63 := Tryz.sizeOf442
  v63 := Tryz.zeroValue442
  t64 := Tryz.underlying111
  a64 := Tryz.isAgg111
  z64 := Tryz.sizeOf111
  v64 := Tryz.zeroValue111 }
end Go.Proofs
