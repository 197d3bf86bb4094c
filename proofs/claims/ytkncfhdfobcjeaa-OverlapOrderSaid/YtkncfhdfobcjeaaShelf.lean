/-
  DERIVED: THE SHELF's CONTRACTS AT THIS DUMP, IN PLAIN WORDS (tools/lay-plain.mjs out of 'TryShelf.lean', which tools/lay-shelf.mjs wrote): THE SAME DECLARATIONS UNDER THE SAME NAMES: 'import', 'namespace', 'open', 'def', 'theorem' AND NOTHING ELSE: no command of the shelf's: FOR A HAND-IN. Each laying: the table of numbers ('.._ren') and one theorem, a field a fact of the dump's own or the kernel's comparison; each contract: ONE APPLICATION.
-/
import Derived.Shelf.Sort.Plain
import Derived.Ground.GgsProg
import Derived.Shelf.GgSortFunc.Tiny
import Derived.Shelf.Slices.Turned
import Derived.Shelf.Slices.Equal
import Derived.Ground.Names2Prog
import Derived.Shelf.Slices.Clone
import Derived.Shelf.Slices.CompactI
import Derived.Shelf.Slices.Cells
import Derived.Shelf.Slices.In.SortNone
import Derived.Shelf.SlSortFuncK.WholeK
import Derived.Test.YtkncfhdfobcjeaaProg
namespace Go.Proofs
open Go.Shelf
def Try.lays189_ren : Go.Shelf.Ren := ⟨fun | 189 => 49 | 125 => 66 | 257 => 65 | 128 => 91 | 129 => 92 | 294 => 82 | 295 => 83 | 296 => 84 | 297 => 85 | 298 => 86 | 299 => 87 | 216 => 88 | 300 => 89 | 301 => 90 | 328 => 102 | 329 => 103 | 330 => 104 | 331 => 105 | 332 => 106 | 215 => 107 | 343 => 129 | n => n, fun | 28 => 25 | 3 => 3 | 46 => 63 | 0 => 0 | 51 => 111 | 53 => 113 | 4 => 4 | 183 => 104 | 182 => 103 | 131 => 108 | 5 => 5 | 9 => 9 | 218 => 128 | 222 => 132 | 228 => 147 | 229 => 148 | n => n, fun | n => n⟩
theorem Try.lays189 : Go.Proofs.Lays.n189 Try.prog Try.lays189_ren := {
  mixed := by kernel_rfl
  f125 := Try.func66.trans (congrArg some (by kernel_rfl))
  f128 := Try.func91.trans (congrArg some (by kernel_rfl))
  f129 := Try.func92.trans (congrArg some (by kernel_rfl))
  f189 := Try.func49.trans (congrArg some (by kernel_rfl))
  f215 := Try.func107.trans (congrArg some (by kernel_rfl))
  f216 := Try.func88.trans (congrArg some (by kernel_rfl))
  f257 := Try.func65.trans (congrArg some (by kernel_rfl))
  f294 := Try.func82.trans (congrArg some (by kernel_rfl))
  f295 := Try.func83.trans (congrArg some (by kernel_rfl))
  f296 := Try.func84.trans (congrArg some (by kernel_rfl))
  f297 := Try.func85.trans (congrArg some (by kernel_rfl))
  f298 := Try.func86.trans (congrArg some (by kernel_rfl))
  f299 := Try.func87.trans (congrArg some (by kernel_rfl))
  f300 := Try.func89.trans (congrArg some (by kernel_rfl))
  f301 := Try.func90.trans (congrArg some (by kernel_rfl))
  f328 := Try.func102.trans (congrArg some (by kernel_rfl))
  f329 := Try.func103.trans (congrArg some (by kernel_rfl))
  f330 := Try.func104.trans (congrArg some (by kernel_rfl))
  f331 := Try.func105.trans (congrArg some (by kernel_rfl))
  f332 := Try.func106.trans (congrArg some (by kernel_rfl))
  f343 := Try.func129.trans (congrArg some (by kernel_rfl))
  t0 := Try.underlying0
  a0 := Try.isAgg0
  z0 := Try.sizeOf0
  v0 := Try.zeroValue0
  t3 := Try.underlying3
  a3 := Try.isAgg3
  z3 := Try.sizeOf3
  v3 := Try.zeroValue3
  t4 := Try.underlying4
  a4 := Try.isAgg4
  z4 := Try.sizeOf4
  v4 := Try.zeroValue4
  t5 := Try.underlying5
  a5 := Try.isAgg5
  z5 := Try.sizeOf5
  v5 := Try.zeroValue5
  t9 := Try.underlying9
  a9 := Try.isAgg9
  z9 := Try.sizeOf9
  v9 := Try.zeroValue9
  t28 := Try.underlying25
  a28 := Try.isAgg25
  z28 := Try.sizeOf25
  v28 := Try.zeroValue25
  t46 := Try.underlying63
  a46 := Try.isAgg63
  z46 := Try.sizeOf63
  v46 := Try.zeroValue63
  t51 := Try.underlying111
  a51 := Try.isAgg111
  z51 := Try.sizeOf111
  v51 := Try.zeroValue111
  t53 := Try.underlying113
  a53 := Try.isAgg113
  z53 := Try.sizeOf113
  v53 := Try.zeroValue113
  t131 := Try.underlying108
  a131 := Try.isAgg108
  z131 := Try.sizeOf108
  v131 := Try.zeroValue108
  t182 := Try.underlying103
  a182 := Try.isAgg103
  z182 := Try.sizeOf103
  v182 := Try.zeroValue103
  t183 := Try.underlying104
  a183 := Try.isAgg104
  z183 := Try.sizeOf104
  v183 := Try.zeroValue104
  t218 := Try.underlying128
  a218 := Try.isAgg128
  z218 := Try.sizeOf128
  v218 := Try.zeroValue128
  t222 := Try.underlying132
  a222 := Try.isAgg132
  z222 := Try.sizeOf132
  v222 := Try.zeroValue132
  t228 := Try.underlying147
  a228 := Try.isAgg147
  z228 := Try.sizeOf147
  v228 := Try.zeroValue147
  t229 := Try.underlying148
  a229 := Try.isAgg148
  z229 := Try.sizeOf148
  v229 := Try.zeroValue148 }
open Go.Sort Go.RowKit in
theorem Try.slices_Sort_int (blk off cap : Nat) (zs : List Int) (w : World) (hH : Holds (Value.int .i64) w blk off zs.toArray) (hblk : blk < w.heap.size) (hsz : zs.length < 4611686018427387904) :
    Calls Try.prog 49 #[.slice (some ⟨blk, off, none⟩) zs.length cap] w fun e w' =>
      e = .returned (.tuple #[]) ∧ ∃ n os, w' = grow (putRow (Value.int .i64) (Sort.ahead w n) blk off (zs.mergeSort fun x y => decide (x ≤ y)).toArray) os := Any.slices_Sort_int Try.lays189 blk off cap zs w hH hblk hsz
def Try.laysGg6_ren : Go.Shelf.Ren := ⟨fun | 6 => 68 | 10 => 93 | 11 => 94 | 12 => 95 | 13 => 66 | 14 => 96 | 24 => 91 | 25 => 92 | 26 => 117 | 27 => 118 | 28 => 119 | 29 => 120 | 30 => 121 | 31 => 122 | 32 => 123 | 33 => 124 | 34 => 130 | 35 => 131 | 36 => 132 | 37 => 133 | 38 => 134 | 39 => 136 | n => n, fun | 20 => 20 | 26 => 95 | 35 => 117 | 0 => 0 | 37 => 82 | 3 => 3 | 41 => 63 | 44 => 123 | 49 => 111 | 51 => 113 | 4 => 4 | 54 => 139 | 53 => 138 | 58 => 108 | 5 => 5 | 9 => 9 | 60 => 150 | 64 => 132 | 66 => 153 | 67 => 148 | 17 => 17 | 32 => 114 | 33 => 115 | 82 => 168 | 12 => 12 | 75 => 161 | 76 => 162 | 77 => 163 | 78 => 164 | 79 => 165 | 80 => 166 | n => n, fun | n => n⟩
theorem Try.laysGg6 : Go.Proofs.LaysGg.n6 Try.prog Try.laysGg6_ren := {
  mixed := by kernel_rfl
  f6 := Try.func68.trans (congrArg some (by kernel_rfl))
  f10 := Try.func93.trans (congrArg some (by kernel_rfl))
  f11 := Try.func94.trans (congrArg some (by kernel_rfl))
  f12 := Try.func95.trans (congrArg some (by kernel_rfl))
  f13 := Try.func66.trans (congrArg some (by kernel_rfl))
  f14 := Try.func96.trans (congrArg some (by kernel_rfl))
  f24 := Try.func91.trans (congrArg some (by kernel_rfl))
  f25 := Try.func92.trans (congrArg some (by kernel_rfl))
  f26 := Try.func117.trans (congrArg some (by kernel_rfl))
  f27 := Try.func118.trans (congrArg some (by kernel_rfl))
  f28 := Try.func119.trans (congrArg some (by kernel_rfl))
  f29 := Try.func120.trans (congrArg some (by kernel_rfl))
  f30 := Try.func121.trans (congrArg some (by kernel_rfl))
  f31 := Try.func122.trans (congrArg some (by kernel_rfl))
  f32 := Try.func123.trans (congrArg some (by kernel_rfl))
  f33 := Try.func124.trans (congrArg some (by kernel_rfl))
  f34 := Try.func130.trans (congrArg some (by kernel_rfl))
  f35 := Try.func131.trans (congrArg some (by kernel_rfl))
  f36 := Try.func132.trans (congrArg some (by kernel_rfl))
  f37 := Try.func133.trans (congrArg some (by kernel_rfl))
  f38 := Try.func134.trans (congrArg some (by kernel_rfl))
  f39 := Try.func136.trans (congrArg some (by kernel_rfl))
  t0 := Try.underlying0
  a0 := Try.isAgg0
  z0 := Try.sizeOf0
  v0 := Try.zeroValue0
  i0 := by kernel_rfl
  t3 := Try.underlying3
  a3 := Try.isAgg3
  z3 := Try.sizeOf3
  v3 := Try.zeroValue3
  i3 := by kernel_rfl
  t4 := Try.underlying4
  a4 := Try.isAgg4
  z4 := Try.sizeOf4
  v4 := Try.zeroValue4
  i4 := by kernel_rfl
  t5 := Try.underlying5
  a5 := Try.isAgg5
  z5 := Try.sizeOf5
  v5 := Try.zeroValue5
  i5 := by kernel_rfl
  t9 := Try.underlying9
  a9 := Try.isAgg9
  z9 := Try.sizeOf9
  v9 := Try.zeroValue9
  i9 := by kernel_rfl
  t12 := Try.underlying12
  a12 := Try.isAgg12
  z12 := Try.sizeOf12
  v12 := Try.zeroValue12
  i12 := by kernel_rfl
  t17 := Try.underlying17
  a17 := Try.isAgg17
  z17 := Try.sizeOf17
  v17 := Try.zeroValue17
  i17 := by kernel_rfl
  t20 := Try.underlying20
  a20 := Try.isAgg20
  z20 := Try.sizeOf20
  v20 := Try.zeroValue20
  i20 := by kernel_rfl
  t26 := Try.underlying95
  a26 := Try.isAgg95
  z26 := Try.sizeOf95
  v26 := Try.zeroValue95
  i26 := by kernel_rfl
  t32 := Try.underlying114
  a32 := Try.isAgg114
  z32 := Try.sizeOf114
  v32 := Try.zeroValue114
  i32 := by kernel_rfl
  t33 := Try.underlying115
  a33 := Try.isAgg115
  z33 := Try.sizeOf115
  v33 := Try.zeroValue115
  i33 := by kernel_rfl
  t35 := Try.underlying117
  a35 := Try.isAgg117
  z35 := Try.sizeOf117
  v35 := Try.zeroValue117
  i35 := by kernel_rfl
  t37 := Try.underlying82
  a37 := Try.isAgg82
  z37 := Try.sizeOf82
  v37 := Try.zeroValue82
  i37 := by kernel_rfl
  t41 := Try.underlying63
  a41 := Try.isAgg63
  z41 := Try.sizeOf63
  v41 := Try.zeroValue63
  i41 := by kernel_rfl
  t44 := Try.underlying123
  a44 := Try.isAgg123
  z44 := Try.sizeOf123
  v44 := Try.zeroValue123
  i44 := by kernel_rfl
  t49 := Try.underlying111
  a49 := Try.isAgg111
  z49 := Try.sizeOf111
  v49 := Try.zeroValue111
  i49 := by kernel_rfl
  t51 := Try.underlying113
  a51 := Try.isAgg113
  z51 := Try.sizeOf113
  v51 := Try.zeroValue113
  i51 := by kernel_rfl
  t53 := Try.underlying138
  a53 := Try.isAgg138
  z53 := Try.sizeOf138
  v53 := Try.zeroValue138
  i53 := by kernel_rfl
  t54 := Try.underlying139
  a54 := Try.isAgg139
  z54 := Try.sizeOf139
  v54 := Try.zeroValue139
  i54 := by kernel_rfl
  t58 := Try.underlying108
  a58 := Try.isAgg108
  z58 := Try.sizeOf108
  v58 := Try.zeroValue108
  i58 := by kernel_rfl
  t60 := Try.underlying150
  a60 := Try.isAgg150
  z60 := Try.sizeOf150
  v60 := Try.zeroValue150
  i60 := by kernel_rfl
  t64 := Try.underlying132
  a64 := Try.isAgg132
  z64 := Try.sizeOf132
  v64 := Try.zeroValue132
  i64 := by kernel_rfl
  t66 := Try.underlying153
  a66 := Try.isAgg153
  z66 := Try.sizeOf153
  v66 := Try.zeroValue153
  i66 := by kernel_rfl
  t67 := Try.underlying148
  a67 := Try.isAgg148
  z67 := Try.sizeOf148
  v67 := Try.zeroValue148
  i67 := by kernel_rfl
  t75 := Try.underlying161
  a75 := Try.isAgg161
  z75 := Try.sizeOf161
  v75 := Try.zeroValue161
  i75 := by kernel_rfl
  t76 := Try.underlying162
  a76 := Try.isAgg162
  z76 := Try.sizeOf162
  v76 := Try.zeroValue162
  i76 := by kernel_rfl
  t77 := Try.underlying163
  a77 := Try.isAgg163
  z77 := Try.sizeOf163
  v77 := Try.zeroValue163
  i77 := by kernel_rfl
  t78 := Try.underlying164
  a78 := Try.isAgg164
  z78 := Try.sizeOf164
  v78 := Try.zeroValue164
  i78 := by kernel_rfl
  t79 := Try.underlying165
  a79 := Try.isAgg165
  z79 := Try.sizeOf165
  v79 := Try.zeroValue165
  i79 := by kernel_rfl
  t80 := Try.underlying166
  a80 := Try.isAgg166
  z80 := Try.sizeOf166
  v80 := Try.zeroValue166
  i80 := by kernel_rfl
  t82 := Try.underlying168
  a82 := Try.isAgg168
  z82 := Try.sizeOf168
  v82 := Try.zeroValue168
  i82 := by kernel_rfl }
def Try.lays108_ren : Go.Shelf.Ren := ⟨fun | 108 => 64 | n => n, fun | 28 => 25 | 3 => 3 | 0 => 0 | 4 => 4 | n => n, fun | n => n⟩
theorem Try.lays108 : Go.Proofs.Lays.n108 Try.prog Try.lays108_ren := {
  mixed := by kernel_rfl
  f108 := Try.func64.trans (congrArg some (by kernel_rfl))
  t0 := Try.underlying0
  a0 := Try.isAgg0
  z0 := Try.sizeOf0
  v0 := Try.zeroValue0
  t3 := Try.underlying3
  a3 := Try.isAgg3
  z3 := Try.sizeOf3
  v3 := Try.zeroValue3
  t4 := Try.underlying4
  a4 := Try.isAgg4
  z4 := Try.sizeOf4
  v4 := Try.zeroValue4
  t28 := Try.underlying25
  a28 := Try.isAgg25
  z28 := Try.sizeOf25
  v28 := Try.zeroValue25 }
open Go.Lib in
/-- slices.Index at []int: "Index returns the index of the first occurrence of v in s, or -1 if not present.": IT RETURNS 'Lib.idxOf (the elements) v'; the world is as it was. 'zs': what the cells behind the slice's address hold (its spare capacity too, if you have it); 'zs.take n': its elements. (LAID: no walk: one application.) -/
theorem Try.slices_Index_int (b off n c : Nat) (zs : List Int) (x : Int) (w : World) (hz : n ≤ zs.length) (hbig : n ≤ 9223372036854775807) (hc : ∀ j, j < zs.length → w.cell? ⟨b, off + j, none⟩ = some (.int .i64 (zs.getD j 0))) :
    Calls Try.prog 64 #[.slice (some ⟨b, off, none⟩) n c, .int .i64 x] w fun e w' => e = .returned (.int .i64 (Lib.idxOf (zs.take n) x)) ∧ w' = w := Any.slices_Index_int Try.lays108 b off n c zs x w hz hbig hc
def Try.lays107_ren : Go.Shelf.Ren := ⟨fun | 107 => 47 | 108 => 64 | n => n, fun | 28 => 25 | 3 => 3 | 4 => 4 | 0 => 0 | n => n, fun | n => n⟩
theorem Try.lays107 : Go.Proofs.Lays.n107 Try.prog Try.lays107_ren := {
  mixed := by kernel_rfl
  f107 := Try.func47.trans (congrArg some (by kernel_rfl))
  f108 := Try.func64.trans (congrArg some (by kernel_rfl))
  t0 := Try.underlying0
  a0 := Try.isAgg0
  z0 := Try.sizeOf0
  v0 := Try.zeroValue0
  t3 := Try.underlying3
  a3 := Try.isAgg3
  z3 := Try.sizeOf3
  v3 := Try.zeroValue3
  t4 := Try.underlying4
  a4 := Try.isAgg4
  z4 := Try.sizeOf4
  v4 := Try.zeroValue4
  t28 := Try.underlying25
  a28 := Try.isAgg25
  z28 := Try.sizeOf25
  v28 := Try.zeroValue25 }
open Go.Lib in
/-- slices.Contains at []int: "Contains reports whether v is present in s.": IT RETURNS 'elements.contains v'; the world is as it was. ITS CALLEE slices.Index IS MET BY ITS OWN CONTRACT OFF THE SHELF (lay that first): no loop is walked here. (LAID: no walk: one application.) -/
theorem Try.slices_Contains_int (b off n c : Nat) (zs : List Int) (x : Int) (w : World) (hz : n ≤ zs.length) (hbig : n ≤ 9223372036854775807) (hc : ∀ j, j < zs.length → w.cell? ⟨b, off + j, none⟩ = some (.int .i64 (zs.getD j 0))) :
    Calls Try.prog 47 #[.slice (some ⟨b, off, none⟩) n c, .int .i64 x] w fun e w' => e = .returned (.bool ((zs.take n).contains x)) ∧ w' = w := Any.slices_Contains_int Try.lays107 b off n c zs x w hz hbig hc
def Try.lays111_ren : Go.Shelf.Ren := ⟨fun | 111 => 76 | n => n, fun | 28 => 25 | 3 => 3 | 4 => 4 | 0 => 0 | n => n, fun | n => n⟩
theorem Try.lays111 : Go.Proofs.Lays.n111 Try.prog Try.lays111_ren := {
  mixed := by kernel_rfl
  f111 := Try.func76.trans (congrArg some (by kernel_rfl))
  t0 := Try.underlying0
  a0 := Try.isAgg0
  z0 := Try.sizeOf0
  v0 := Try.zeroValue0
  t3 := Try.underlying3
  a3 := Try.isAgg3
  z3 := Try.sizeOf3
  v3 := Try.zeroValue3
  t4 := Try.underlying4
  a4 := Try.isAgg4
  z4 := Try.sizeOf4
  v4 := Try.zeroValue4
  t28 := Try.underlying25
  a28 := Try.isAgg25
  z28 := Try.sizeOf25
  v28 := Try.zeroValue25 }
open Go.RowKit Go.Lib in
/-- slices.Equal at []int: "Equal reports whether two slices are equal: the same length and all elements equal. If the lengths are different, Equal returns false. Otherwise, the elements are compared in increasing index order, and the comparison stops at the first unequal pair. Empty and nil slices are considered equal.": IT RETURNS WHETHER THE TWO LISTS OF ELEMENTS ARE ONE; the world is as it was but for the count of draws (the test 's1[i] != s2[i]' has two reads, whose order the model draws, once a round). 'xs', 'ys': what the cells behind the two addresses hold (the spare capacity too, if you have it); 'xs.take n', 'ys.take m': the elements. THE TWO SLICES MAY OVERLAP. (LAID: no walk: one application.) -/
theorem Try.slices_Equal_int (b1 o1 n c b2 o2 m d : Nat) (xs ys : List Int) (w : World) (hx : n ≤ xs.length) (hy : m ≤ ys.length) (hbig : n ≤ 9223372036854775807) (hbig2 : m ≤ 9223372036854775807) (hc1 : ∀ j, j < xs.length → w.cell? ⟨b1, o1 + j, none⟩ = some (.int .i64 (xs.getD j 0))) (hc2 : ∀ j, j < ys.length → w.cell? ⟨b2, o2 + j, none⟩ = some (.int .i64 (ys.getD j 0))) :
    Calls Try.prog 76 #[.slice (some ⟨b1, o1, none⟩) n c, .slice (some ⟨b2, o2, none⟩) m d] w fun e w' => e = .returned (.bool (xs.take n == ys.take m)) ∧ ∃ q, w' = w.drewN q := Any.slices_Equal_int Try.lays111 b1 o1 n c b2 o2 m d xs ys w hx hy hbig hbig2 hc1 hc2
open Go.RowKit Go.Lib in
/-- The same where the first is of length 0 (a nil one too): no cell is asked for. (LAID: no walk: one application.) -/
theorem Try.slices_Equal_int_empty (a1 a2 : Option Addr) (c m d : Nat) (w : World) (hbig2 : m ≤ 9223372036854775807) :
    Calls Try.prog 76 #[.slice a1 0 c, .slice a2 m d] w fun e w' => e = .returned (.bool (decide (m = 0))) ∧ w' = w := Any.slices_Equal_int_empty Try.lays111 a1 a2 c m d w hbig2
def Try.laysNm215_ren : Go.Shelf.Ren := ⟨fun | 15 => 44 | n => n, fun | 22 => 25 | 3 => 3 | 4 => 4 | n => n, fun | n => n⟩
theorem Try.laysNm215 : Go.Proofs.Lays2.n15 Try.prog Try.laysNm215_ren := {
  mixed := by kernel_rfl
  f15 := Try.func44.trans (congrArg some (by kernel_rfl))
  t3 := Try.underlying3
  a3 := Try.isAgg3
  z3 := Try.sizeOf3
  v3 := Try.zeroValue3
  t4 := Try.underlying4
  a4 := Try.isAgg4
  z4 := Try.sizeOf4
  v4 := Try.zeroValue4
  t22 := Try.underlying25
  a22 := Try.isAgg25
  z22 := Try.sizeOf25
  v22 := Try.zeroValue25
  i3 := by kernel_rfl }
open Go.RowKit Go.Lib in
/-- slices.Clone at []int: "Clone returns a copy of the slice. The elements are copied using assignment, so this is a shallow clone. The result may have additional unused capacity. The result preserves the nilness of s.": OF A SLICE THAT IS NOT nil IT RETURNS A SLICE THAT IS NOT nil, OF THE SAME ELEMENTS, IN MEMORY OF THE CALL's OWN: in the how-to's words (6f): 'w'.ownsRow B e 1 v' n cells': v' begins at the head of a row among the blocks from B on (B: the heap's size at the call), not frozen, whose first cells are the elements · 'Below B w w'': below B all is as it was. The capacity is whatever the run-time gives. 'zs': what the cells behind the slice's address hold; 'zs.take n': its elements. (LAID: no walk: one application.) -/
theorem Try.slices_Clone_int (b off n c : Nat) (zs : List Int) (w : World) (hz : n ≤ zs.length) (hbig : n * 8 ≤ 140737488355328) (hc : ∀ j, j < zs.length → w.cell? ⟨b, off + j, none⟩ = some (.int .i64 (zs.getD j 0))) :
    Calls Try.prog 44 #[.slice (some ⟨b, off, none⟩) n c] w fun e w' => ∃ v', e = .returned v' ∧ w'.ownsRow w.heap.size 3 1 v' n ((zs.take n).map (Value.int .i64)) ∧ v' ≠ .slice none 0 0 ∧ Below w.heap.size w w' := Any.slices_Clone_int Try.laysNm215 b off n c zs w hz hbig hc
open Go.RowKit Go.Lib in
/-- The same at nil: nil comes back; the world is as it was. (LAID: no walk: one application.) -/
theorem Try.slices_Clone_int_nil (n c : Nat) (w : World) :
    Calls Try.prog 44 #[.slice none n c] w fun e w' => e = .returned (.slice none 0 0) ∧ w' = w := Any.slices_Clone_int_nil Try.laysNm215 n c w
open Go.RowKit Go.Lib in
/-- The same at a slice of length 0 that is not nil, WHATEVER ITS ADDRESS (no cell is asked for): a slice that is not nil and owns nothing comes back. (LAID: no walk: one application.) -/
theorem Try.slices_Clone_int_zero (a : Addr) (c : Nat) (w : World) :
    Calls Try.prog 44 #[.slice (some a) 0 c] w fun e w' => ∃ v', e = .returned v' ∧ w'.ownsRow w.heap.size 3 1 v' 0 [] ∧ v' ≠ .slice none 0 0 ∧ Below w.heap.size w w' := Any.slices_Clone_int_zero Try.laysNm215 a c w
def Try.laysNm220_ren : Go.Shelf.Ren := ⟨fun | 20 => 74 | n => n, fun | 22 => 25 | 3 => 3 | 4 => 4 | 0 => 0 | n => n, fun | n => n⟩
theorem Try.laysNm220 : Go.Proofs.Lays2.n20 Try.prog Try.laysNm220_ren := {
  mixed := by kernel_rfl
  f20 := Try.func74.trans (congrArg some (by kernel_rfl))
  t0 := Try.underlying0
  a0 := Try.isAgg0
  z0 := Try.sizeOf0
  v0 := Try.zeroValue0
  t3 := Try.underlying3
  a3 := Try.isAgg3
  z3 := Try.sizeOf3
  v3 := Try.zeroValue3
  t4 := Try.underlying4
  a4 := Try.isAgg4
  z4 := Try.sizeOf4
  v4 := Try.zeroValue4
  t22 := Try.underlying25
  a22 := Try.isAgg25
  z22 := Try.sizeOf25
  v22 := Try.zeroValue25
  i3 := by kernel_rfl }
open Go.RowKit Go.Lib Go.Sort in
/-- slices.Compact at []int: "Compact replaces consecutive runs of equal elements with a single copy. This is like the uniq command found on Unix. Compact modifies the contents of the slice s and returns the modified slice, which may have a smaller length. Compact zeroes the elements between the new length and the original length. The result preserves the nilness of s.": IT RETURNS THE SLICE CUT TO 'Lib.compact zs'; ITS CELLS HOLD 'Lib.compact zs', THEN ZERO VALUES up to the old length; all else is as it was, but for the count of draws. IN THE WORDS OF slices.Sort's CONTRACT ('Holds', 'putRow'): so the everyday 'slices.Sort(xs); xs = slices.Compact(xs)' goes from the one contract to the other. It asks 'zs.length ≤ cap' (every slice's: the reslicing 's[:k]' looks at it). Length 0, nil: '.._empty'. (LAID: no walk: one application.) -/
theorem Try.slices_Compact_int (blk off cap : Nat) (zs : List Int) (w : World) (hH : Holds (Value.int .i64) w blk off zs.toArray) (hsz : zs.length ≤ 9223372036854775807) (hcap : zs.length ≤ cap) :
    Calls Try.prog 74 #[.slice (some ⟨blk, off, none⟩) zs.length cap] w fun e w' => e = .returned (.slice (some ⟨blk, off, none⟩) (Lib.compact zs).length cap) ∧ ∃ q, w' = putRow (Value.int .i64) (Sort.ahead w q) blk off (Lib.compact zs ++ List.replicate (zs.length - (Lib.compact zs).length) 0).toArray := Any.slices_Compact_int Try.laysNm220 blk off cap zs w hH hsz hcap
open Go.RowKit Go.Lib Go.Sort in
/-- The same at a slice of length 0, a nil one too: it comes back as it is. (LAID: no walk: one application.) -/
theorem Try.slices_Compact_int_empty (a : Option Addr) (cap : Nat) (w : World) :
    Calls Try.prog 74 #[.slice a 0 cap] w fun e w' => e = .returned (.slice a 0 cap) ∧ w' = w := Any.slices_Compact_int_empty Try.laysNm220 a cap w
open Go.RowKit Go.Sort in
/-- .. and plain. (LAID: no walk: one application.) -/
theorem Try.slices_Sort_int_none (p : Option Addr) (cap : Nat) (w : World) :
    Calls Try.prog 49 #[.slice p 0 cap] w fun e w' => e = .returned (.tuple #[]) ∧ w' = w := Any.slices_Sort_int_none Try.lays189 p cap w
end Go.Proofs
