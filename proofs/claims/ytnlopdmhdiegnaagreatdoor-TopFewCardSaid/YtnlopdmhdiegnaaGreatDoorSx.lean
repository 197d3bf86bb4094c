/- Short names for laws of the kit (no conditions beyond theirs). -/
import Derived.WalkKit
import Derived.Below
import Derived.Lib.Hide
import Derived.Maps.AppendAt
import Derived.Deep.MidRow
set_option linter.unusedVariables false
namespace Go.Proofs.YtnlopdmhdiegnaaGreatDoor
open Go.RowKit
theorem cOr {w : World} {g j : Nat} {cs : Array Value} {t : TypeId} {fr : Nat × Nat} (h : w.heap[g]? = some (.cells cs t fr)) : w.cell? ⟨g, j, none⟩ = cs[j]? := cell_of_row w g j cs t fr h
theorem fZr {w : World} {g : Nat} (j : Nat) {cs : Array Value} {t : TypeId} (h : w.heap[g]? = some (.cells cs t)) : w.frozen? ⟨g, j, none⟩ = false := frozen_of_row w g j cs t h
theorem hSs (w : World) (g i : Nat) (cs : Array Value) (t : TypeId) (v : Value) (h : w.heap[g]? = some (.cells cs t)) : (w.setCell ⟨g, i, none⟩ v).heap[g]? = some (.cells (cs.setIfInBounds i v) t) := heap_setCell_same w g i cs t v h
theorem hAn (w : World) (o : Obj) : (w.alloc o).heap[w.heap.size]? = some o := heap_alloc_new w o
theorem hID {p : Prop} (h : p) : Hid p := Lib.hid h
theorem lRf {n : Nat} : n ≤ n := Nat.le_refl n
theorem lTr {a b c : Nat} (h : a ≤ b) (k : b ≤ c) : a ≤ c := Nat.le_trans h k
theorem lLt {a b c : Nat} (h : a < b) (k : b ≤ c) : a < c := Nat.lt_of_lt_of_le h k
theorem bRf {B : Nat} {w : World} : Below B w w := Below.refl B w
end Go.Proofs.YtnlopdmhdiegnaaGreatDoor
