/-
  DERIVED: THE SHELF's CONTRACTS AT THIS DUMP, IN PLAIN WORDS (tools/lay-plain.mjs out of 'TryShelf.lean', which tools/lay-shelf.mjs wrote): THE SAME DECLARATIONS UNDER THE SAME NAMES: 'import', 'namespace', 'open', 'def', 'theorem' AND NOTHING ELSE: no command of the shelf's: FOR A HAND-IN. Each laying: the table of numbers ('.._ren') and one theorem, a field a fact of the dump's own or the kernel's comparison; each contract: ONE APPLICATION.
-/
import Derived.Shelf.Sort.Plain
import Derived.Ground.GgsProg
import Derived.Shelf.GgSortFunc.Tiny
import Derived.Shelf.Slices.Equal
import Derived.Ground.Names2Prog
import Derived.Shelf.Slices.CompactI
import Derived.Shelf.Slices.Cells
import Derived.Shelf.Slices.In.SortNone
import Derived.Shelf.SlSortFuncK.WholeK
import Derived.Test.YtjhbicopmgdlcaaProg
namespace Go.Proofs
open Go.Shelf
def Try.lays189_ren : Go.Shelf.Ren := ⟨fun | 189 => 56 | 125 => 63 | 257 => 67 | 128 => 79 | 129 => 80 | 294 => 89 | 295 => 90 | 296 => 91 | 297 => 92 | 298 => 93 | 299 => 94 | 216 => 95 | 300 => 96 | 301 => 97 | 328 => 103 | 329 => 104 | 330 => 105 | 331 => 106 | 332 => 107 | 215 => 108 | 343 => 110 | n => n, fun | 28 => 47 | 3 => 3 | 46 => 72 | 0 => 0 | 51 => 85 | 53 => 87 | 4 => 4 | 183 => 97 | 182 => 96 | 131 => 31 | 5 => 5 | 9 => 9 | 218 => 108 | 222 => 106 | 228 => 114 | 229 => 112 | n => n, fun | n => n⟩
theorem Try.lays189 : Go.Proofs.Lays.n189 Try.prog Try.lays189_ren := {
  mixed := by kernel_rfl
  f125 := Try.func63.trans (congrArg some (by kernel_rfl))
  f128 := Try.func79.trans (congrArg some (by kernel_rfl))
  f129 := Try.func80.trans (congrArg some (by kernel_rfl))
  f189 := Try.func56.trans (congrArg some (by kernel_rfl))
  f215 := Try.func108.trans (congrArg some (by kernel_rfl))
  f216 := Try.func95.trans (congrArg some (by kernel_rfl))
  f257 := Try.func67.trans (congrArg some (by kernel_rfl))
  f294 := Try.func89.trans (congrArg some (by kernel_rfl))
  f295 := Try.func90.trans (congrArg some (by kernel_rfl))
  f296 := Try.func91.trans (congrArg some (by kernel_rfl))
  f297 := Try.func92.trans (congrArg some (by kernel_rfl))
  f298 := Try.func93.trans (congrArg some (by kernel_rfl))
  f299 := Try.func94.trans (congrArg some (by kernel_rfl))
  f300 := Try.func96.trans (congrArg some (by kernel_rfl))
  f301 := Try.func97.trans (congrArg some (by kernel_rfl))
  f328 := Try.func103.trans (congrArg some (by kernel_rfl))
  f329 := Try.func104.trans (congrArg some (by kernel_rfl))
  f330 := Try.func105.trans (congrArg some (by kernel_rfl))
  f331 := Try.func106.trans (congrArg some (by kernel_rfl))
  f332 := Try.func107.trans (congrArg some (by kernel_rfl))
  f343 := Try.func110.trans (congrArg some (by kernel_rfl))
  t0 := Try.underlying0
  a0 := Try.isAgg0
  z0 := Try.sizeOf0
  v0 := Try.zeroValue0
  t3 := Try.underlying3
  a3 := Try.isAgg3
  z3 := Try.sizeOf3
  v3 := Try.zeroValue3
  t4 := Try.underlying4
  a4 := Try.isAgg4
  z4 := Try.sizeOf4
  v4 := Try.zeroValue4
  t5 := Try.underlying5
  a5 := Try.isAgg5
  z5 := Try.sizeOf5
  v5 := Try.zeroValue5
  t9 := Try.underlying9
  a9 := Try.isAgg9
  z9 := Try.sizeOf9
  v9 := Try.zeroValue9
  t28 := Try.underlying47
  a28 := Try.isAgg47
  z28 := Try.sizeOf47
  v28 := Try.zeroValue47
  t46 := Try.underlying72
  a46 := Try.isAgg72
  z46 := Try.sizeOf72
  v46 := Try.zeroValue72
  t51 := Try.underlying85
  a51 := Try.isAgg85
  z51 := Try.sizeOf85
  v51 := Try.zeroValue85
  t53 := Try.underlying87
  a53 := Try.isAgg87
  z53 := Try.sizeOf87
  v53 := Try.zeroValue87
  t131 := Try.underlying31
  a131 := Try.isAgg31
  z131 := Try.sizeOf31
  v131 := Try.zeroValue31
  t182 := Try.underlying96
  a182 := Try.isAgg96
  z182 := Try.sizeOf96
  v182 := Try.zeroValue96
  t183 := Try.underlying97
  a183 := Try.isAgg97
  z183 := Try.sizeOf97
  v183 := Try.zeroValue97
  t218 := Try.underlying108
  a218 := Try.isAgg108
  z218 := Try.sizeOf108
  v218 := Try.zeroValue108
  t222 := Try.underlying106
  a222 := Try.isAgg106
  z222 := Try.sizeOf106
  v222 := Try.zeroValue106
  t228 := Try.underlying114
  a228 := Try.isAgg114
  z228 := Try.sizeOf114
  v228 := Try.zeroValue114
  t229 := Try.underlying112
  a229 := Try.isAgg112
  z229 := Try.sizeOf112
  v229 := Try.zeroValue112 }
open Go.Sort Go.RowKit in
theorem Try.slices_Sort_int (blk off cap : Nat) (zs : List Int) (w : World) (hH : Holds (Value.int .i64) w blk off zs.toArray) (hblk : blk < w.heap.size) (hsz : zs.length < 4611686018427387904) :
    Calls Try.prog 56 #[.slice (some ⟨blk, off, none⟩) zs.length cap] w fun e w' =>
      e = .returned (.tuple #[]) ∧ ∃ n os, w' = grow (putRow (Value.int .i64) (Sort.ahead w n) blk off (zs.mergeSort fun x y => decide (x ≤ y)).toArray) os := Any.slices_Sort_int Try.lays189 blk off cap zs w hH hblk hsz
def Try.lays111_ren : Go.Shelf.Ren := ⟨fun | 111 => 58 | n => n, fun | 28 => 47 | 3 => 3 | 4 => 4 | 0 => 0 | n => n, fun | n => n⟩
theorem Try.lays111 : Go.Proofs.Lays.n111 Try.prog Try.lays111_ren := {
  mixed := by kernel_rfl
  f111 := Try.func58.trans (congrArg some (by kernel_rfl))
  t0 := Try.underlying0
  a0 := Try.isAgg0
  z0 := Try.sizeOf0
  v0 := Try.zeroValue0
  t3 := Try.underlying3
  a3 := Try.isAgg3
  z3 := Try.sizeOf3
  v3 := Try.zeroValue3
  t4 := Try.underlying4
  a4 := Try.isAgg4
  z4 := Try.sizeOf4
  v4 := Try.zeroValue4
  t28 := Try.underlying47
  a28 := Try.isAgg47
  z28 := Try.sizeOf47
  v28 := Try.zeroValue47 }
open Go.RowKit Go.Lib in
/-- slices.Equal at []int: "Equal reports whether two slices are equal: the same length and all elements equal. If the lengths are different, Equal returns false. Otherwise, the elements are compared in increasing index order, and the comparison stops at the first unequal pair. Empty and nil slices are considered equal.": IT RETURNS WHETHER THE TWO LISTS OF ELEMENTS ARE ONE; the world is as it was but for the count of draws (the test 's1[i] != s2[i]' has two reads, whose order the model draws, once a round). 'xs', 'ys': what the cells behind the two addresses hold (the spare capacity too, if you have it); 'xs.take n', 'ys.take m': the elements. THE TWO SLICES MAY OVERLAP. (LAID: no walk: one application.) -/
theorem Try.slices_Equal_int (b1 o1 n c b2 o2 m d : Nat) (xs ys : List Int) (w : World) (hx : n ≤ xs.length) (hy : m ≤ ys.length) (hbig : n ≤ 9223372036854775807) (hbig2 : m ≤ 9223372036854775807) (hc1 : ∀ j, j < xs.length → w.cell? ⟨b1, o1 + j, none⟩ = some (.int .i64 (xs.getD j 0))) (hc2 : ∀ j, j < ys.length → w.cell? ⟨b2, o2 + j, none⟩ = some (.int .i64 (ys.getD j 0))) :
    Calls Try.prog 58 #[.slice (some ⟨b1, o1, none⟩) n c, .slice (some ⟨b2, o2, none⟩) m d] w fun e w' => e = .returned (.bool (xs.take n == ys.take m)) ∧ ∃ q, w' = w.drewN q := Any.slices_Equal_int Try.lays111 b1 o1 n c b2 o2 m d xs ys w hx hy hbig hbig2 hc1 hc2
open Go.RowKit Go.Lib in
/-- The same where the first is of length 0 (a nil one too): no cell is asked for. (LAID: no walk: one application.) -/
theorem Try.slices_Equal_int_empty (a1 a2 : Option Addr) (c m d : Nat) (w : World) (hbig2 : m ≤ 9223372036854775807) :
    Calls Try.prog 58 #[.slice a1 0 c, .slice a2 m d] w fun e w' => e = .returned (.bool (decide (m = 0))) ∧ w' = w := Any.slices_Equal_int_empty Try.lays111 a1 a2 c m d w hbig2
def Try.laysNm220_ren : Go.Shelf.Ren := ⟨fun | 20 => 57 | n => n, fun | 22 => 47 | 3 => 3 | 4 => 4 | 0 => 0 | n => n, fun | n => n⟩
theorem Try.laysNm220 : Go.Proofs.Lays2.n20 Try.prog Try.laysNm220_ren := {
  mixed := by kernel_rfl
  f20 := Try.func57.trans (congrArg some (by kernel_rfl))
  t0 := Try.underlying0
  a0 := Try.isAgg0
  z0 := Try.sizeOf0
  v0 := Try.zeroValue0
  t3 := Try.underlying3
  a3 := Try.isAgg3
  z3 := Try.sizeOf3
  v3 := Try.zeroValue3
  t4 := Try.underlying4
  a4 := Try.isAgg4
  z4 := Try.sizeOf4
  v4 := Try.zeroValue4
  t22 := Try.underlying47
  a22 := Try.isAgg47
  z22 := Try.sizeOf47
  v22 := Try.zeroValue47
  i3 := by kernel_rfl }
open Go.RowKit Go.Lib Go.Sort in
/-- slices.Compact at []int: "Compact replaces consecutive runs of equal elements with a single copy. This is like the uniq command found on Unix. Compact modifies the contents of the slice s and returns the modified slice, which may have a smaller length. Compact zeroes the elements between the new length and the original length. The result preserves the nilness of s.": IT RETURNS THE SLICE CUT TO 'Lib.compact zs'; ITS CELLS HOLD 'Lib.compact zs', THEN ZERO VALUES up to the old length; all else is as it was, but for the count of draws. IN THE WORDS OF slices.Sort's CONTRACT ('Holds', 'putRow'): so the everyday 'slices.Sort(xs); xs = slices.Compact(xs)' goes from the one contract to the other. It asks 'zs.length ≤ cap' (every slice's: the reslicing 's[:k]' looks at it). Length 0, nil: '.._empty'. (LAID: no walk: one application.) -/
theorem Try.slices_Compact_int (blk off cap : Nat) (zs : List Int) (w : World) (hH : Holds (Value.int .i64) w blk off zs.toArray) (hsz : zs.length ≤ 9223372036854775807) (hcap : zs.length ≤ cap) :
    Calls Try.prog 57 #[.slice (some ⟨blk, off, none⟩) zs.length cap] w fun e w' => e = .returned (.slice (some ⟨blk, off, none⟩) (Lib.compact zs).length cap) ∧ ∃ q, w' = putRow (Value.int .i64) (Sort.ahead w q) blk off (Lib.compact zs ++ List.replicate (zs.length - (Lib.compact zs).length) 0).toArray := Any.slices_Compact_int Try.laysNm220 blk off cap zs w hH hsz hcap
open Go.RowKit Go.Lib Go.Sort in
/-- The same at a slice of length 0, a nil one too: it comes back as it is. (LAID: no walk: one application.) -/
theorem Try.slices_Compact_int_empty (a : Option Addr) (cap : Nat) (w : World) :
    Calls Try.prog 57 #[.slice a 0 cap] w fun e w' => e = .returned (.slice a 0 cap) ∧ w' = w := Any.slices_Compact_int_empty Try.laysNm220 a cap w
open Go.RowKit Go.Lib Go.Sort in
/-- slices.Compact at []int, of an argument: the slice cut to 'Lib.compact (elements)'; the n cells hold that, then zeros. (LAID: no walk: one application.) -/
theorem Try.slices_Compact_int_cells (b off n c : Nat) (zs : List Int) (w : World) (hz : n ≤ zs.length) (hbig : n ≤ 9223372036854775807) (hcap : n ≤ c) (hc : ∀ j, j < zs.length → w.cell? ⟨b, off + j, none⟩ = some (.int .i64 (zs.getD j 0))) (hf : ∀ j, j < n → w.frozen? ⟨b, off + j, none⟩ = false) :
    Calls Try.prog 57 #[.slice (some ⟨b, off, none⟩) n c] w fun e w' => e = .returned (.slice (some ⟨b, off, none⟩) (Lib.compact (zs.take n)).length c) ∧ ∃ q, w' = (w.drewN q).setCells b off ((Lib.compact (zs.take n) ++ List.replicate (n - (Lib.compact (zs.take n)).length) 0).map (Value.int .i64)) := Any.slices_Compact_int_cells Try.laysNm220 b off n c zs w hz hbig hcap hc hf
open Go.RowKit Go.Sort in
/-- .. and plain. (LAID: no walk: one application.) -/
theorem Try.slices_Sort_int_none (p : Option Addr) (cap : Nat) (w : World) :
    Calls Try.prog 56 #[.slice p 0 cap] w fun e w' => e = .returned (.tuple #[]) ∧ w' = w := Any.slices_Sort_int_none Try.lays189 p cap w
def Try.laysGg6_ren : Go.Shelf.Ren := ⟨fun | 6 => 48 | 10 => 60 | 11 => 61 | 12 => 62 | 13 => 63 | 14 => 64 | 24 => 79 | 25 => 80 | 26 => 81 | 27 => 82 | 28 => 83 | 29 => 84 | 30 => 85 | 31 => 86 | 32 => 87 | 33 => 88 | 34 => 98 | 35 => 99 | 36 => 100 | 37 => 101 | 38 => 102 | 39 => 109 | n => n, fun | 20 => 20 | 26 => 55 | 35 => 66 | 0 => 0 | 37 => 68 | 3 => 3 | 41 => 72 | 44 => 75 | 49 => 85 | 51 => 87 | 4 => 4 | 54 => 90 | 53 => 89 | 58 => 31 | 5 => 5 | 9 => 9 | 60 => 102 | 64 => 106 | 66 => 111 | 67 => 112 | 17 => 17 | 32 => 63 | 33 => 64 | 82 => 129 | 12 => 12 | 75 => 122 | 76 => 123 | 77 => 124 | 78 => 125 | 79 => 126 | 80 => 127 | n => n, fun | n => n⟩
theorem Try.laysGg6 : Go.Proofs.LaysGg.n6 Try.prog Try.laysGg6_ren := {
  mixed := by kernel_rfl
  f6 := Try.func48.trans (congrArg some (by kernel_rfl))
  f10 := Try.func60.trans (congrArg some (by kernel_rfl))
  f11 := Try.func61.trans (congrArg some (by kernel_rfl))
  f12 := Try.func62.trans (congrArg some (by kernel_rfl))
  f13 := Try.func63.trans (congrArg some (by kernel_rfl))
  f14 := Try.func64.trans (congrArg some (by kernel_rfl))
  f24 := Try.func79.trans (congrArg some (by kernel_rfl))
  f25 := Try.func80.trans (congrArg some (by kernel_rfl))
  f26 := Try.func81.trans (congrArg some (by kernel_rfl))
  f27 := Try.func82.trans (congrArg some (by kernel_rfl))
  f28 := Try.func83.trans (congrArg some (by kernel_rfl))
  f29 := Try.func84.trans (congrArg some (by kernel_rfl))
  f30 := Try.func85.trans (congrArg some (by kernel_rfl))
  f31 := Try.func86.trans (congrArg some (by kernel_rfl))
  f32 := Try.func87.trans (congrArg some (by kernel_rfl))
  f33 := Try.func88.trans (congrArg some (by kernel_rfl))
  f34 := Try.func98.trans (congrArg some (by kernel_rfl))
  f35 := Try.func99.trans (congrArg some (by kernel_rfl))
  f36 := Try.func100.trans (congrArg some (by kernel_rfl))
  f37 := Try.func101.trans (congrArg some (by kernel_rfl))
  f38 := Try.func102.trans (congrArg some (by kernel_rfl))
  f39 := Try.func109.trans (congrArg some (by kernel_rfl))
  t0 := Try.underlying0
  a0 := Try.isAgg0
  z0 := Try.sizeOf0
  v0 := Try.zeroValue0
  i0 := by kernel_rfl
  t3 := Try.underlying3
  a3 := Try.isAgg3
  z3 := Try.sizeOf3
  v3 := Try.zeroValue3
  i3 := by kernel_rfl
  t4 := Try.underlying4
  a4 := Try.isAgg4
  z4 := Try.sizeOf4
  v4 := Try.zeroValue4
  i4 := by kernel_rfl
  t5 := Try.underlying5
  a5 := Try.isAgg5
  z5 := Try.sizeOf5
  v5 := Try.zeroValue5
  i5 := by kernel_rfl
  t9 := Try.underlying9
  a9 := Try.isAgg9
  z9 := Try.sizeOf9
  v9 := Try.zeroValue9
  i9 := by kernel_rfl
  t12 := Try.underlying12
  a12 := Try.isAgg12
  z12 := Try.sizeOf12
  v12 := Try.zeroValue12
  i12 := by kernel_rfl
  t17 := Try.underlying17
  a17 := Try.isAgg17
  z17 := Try.sizeOf17
  v17 := Try.zeroValue17
  i17 := by kernel_rfl
  t20 := Try.underlying20
  a20 := Try.isAgg20
  z20 := Try.sizeOf20
  v20 := Try.zeroValue20
  i20 := by kernel_rfl
  t26 := Try.underlying55
  a26 := Try.isAgg55
  z26 := Try.sizeOf55
  v26 := Try.zeroValue55
  i26 := by kernel_rfl
  t32 := Try.underlying63
  a32 := Try.isAgg63
  z32 := Try.sizeOf63
  v32 := Try.zeroValue63
  i32 := by kernel_rfl
  t33 := Try.underlying64
  a33 := Try.isAgg64
  z33 := Try.sizeOf64
  v33 := Try.zeroValue64
  i33 := by kernel_rfl
  t35 := Try.underlying66
  a35 := Try.isAgg66
  z35 := Try.sizeOf66
  v35 := Try.zeroValue66
  i35 := by kernel_rfl
  t37 := Try.underlying68
  a37 := Try.isAgg68
  z37 := Try.sizeOf68
  v37 := Try.zeroValue68
  i37 := by kernel_rfl
  t41 := Try.underlying72
  a41 := Try.isAgg72
  z41 := Try.sizeOf72
  v41 := Try.zeroValue72
  i41 := by kernel_rfl
  t44 := Try.underlying75
  a44 := Try.isAgg75
  z44 := Try.sizeOf75
  v44 := Try.zeroValue75
  i44 := by kernel_rfl
  t49 := Try.underlying85
  a49 := Try.isAgg85
  z49 := Try.sizeOf85
  v49 := Try.zeroValue85
  i49 := by kernel_rfl
  t51 := Try.underlying87
  a51 := Try.isAgg87
  z51 := Try.sizeOf87
  v51 := Try.zeroValue87
  i51 := by kernel_rfl
  t53 := Try.underlying89
  a53 := Try.isAgg89
  z53 := Try.sizeOf89
  v53 := Try.zeroValue89
  i53 := by kernel_rfl
  t54 := Try.underlying90
  a54 := Try.isAgg90
  z54 := Try.sizeOf90
  v54 := Try.zeroValue90
  i54 := by kernel_rfl
  t58 := Try.underlying31
  a58 := Try.isAgg31
  z58 := Try.sizeOf31
  v58 := Try.zeroValue31
  i58 := by kernel_rfl
  t60 := Try.underlying102
  a60 := Try.isAgg102
  z60 := Try.sizeOf102
  v60 := Try.zeroValue102
  i60 := by kernel_rfl
  t64 := Try.underlying106
  a64 := Try.isAgg106
  z64 := Try.sizeOf106
  v64 := Try.zeroValue106
  i64 := by kernel_rfl
  t66 := Try.underlying111
  a66 := Try.isAgg111
  z66 := Try.sizeOf111
  v66 := Try.zeroValue111
  i66 := by kernel_rfl
  t67 := Try.underlying112
  a67 := Try.isAgg112
  z67 := Try.sizeOf112
  v67 := Try.zeroValue112
  i67 := by kernel_rfl
  t75 := Try.underlying122
  a75 := Try.isAgg122
  z75 := Try.sizeOf122
  v75 := Try.zeroValue122
  i75 := by kernel_rfl
  t76 := Try.underlying123
  a76 := Try.isAgg123
  z76 := Try.sizeOf123
  v76 := Try.zeroValue123
  i76 := by kernel_rfl
  t77 := Try.underlying124
  a77 := Try.isAgg124
  z77 := Try.sizeOf124
  v77 := Try.zeroValue124
  i77 := by kernel_rfl
  t78 := Try.underlying125
  a78 := Try.isAgg125
  z78 := Try.sizeOf125
  v78 := Try.zeroValue125
  i78 := by kernel_rfl
  t79 := Try.underlying126
  a79 := Try.isAgg126
  z79 := Try.sizeOf126
  v79 := Try.zeroValue126
  i79 := by kernel_rfl
  t80 := Try.underlying127
  a80 := Try.isAgg127
  z80 := Try.sizeOf127
  v80 := Try.zeroValue127
  i80 := by kernel_rfl
  t82 := Try.underlying129
  a82 := Try.isAgg129
  z82 := Try.sizeOf129
  v82 := Try.zeroValue129
  i82 := by kernel_rfl }
end Go.Proofs
