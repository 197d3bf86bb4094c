/- A whole row stored into a block that is known whole. -/
import Derived.Test.YtbogmkhoppffgaaScA
namespace Go.Proofs.Ytbogmkhoppffgaa
open Go.RowKit

/-- A whole row stored into a block that is known whole. -/
theorem wpList_store_whole {P : Program} {ops : Array Oper} {rest : List Oper} {op : Oper} {a : Act} {w : World} {Q : Exit → Act → World → Prop} (hgd : op.guard = none) (ty : TypeId) (x y : Operand) (ho : op.op = .store ty x y)
    (g : Nat) (cur : Array Value) (t : TypeId) (vs : List Value) (hx : a.eval x = .pointer (some ⟨g, 0, none⟩)) (hy : a.eval y = .agg vs.toArray) (hg : w.heap[g]? = some (.cells cur t (0, 0)))
    (hl : vs.length = cur.size) (hi : (P.info? ty).map (·.size) = some vs.length) (h1 : ∀ v ∈ vs, v.oneCell' = true)
    (h : ∀ W' : World, W'.heap[g]? = some (.cells vs.toArray t (0, 0)) → (∀ B, B ≤ g → Below B w W') → wpList P ops Q rest (a.put op.dst undef) W') : wpList P ops Q (op :: rest) a w := by
  have hlt : g < w.heap.size := (Array.getElem?_eq_some_iff.1 hg).1
  refine wpList_store_mid hgd ty x y ho g 0 vs.toArray hx hy ?_ (by simpa using hi) (all_oneCell_toArray h1) ?_
  · intro j hj
    have hj' : j < cur.size := by rw [← hl]; simpa using hj
    rw [Nat.zero_add]
    refine ⟨?_, frozen_of_row w g j _ _ hg⟩
    rw [cell_of_row w g j _ _ _ hg]
    simp [hj']
  · have e := setCells_row g vs 0 w cur t hg (by omega)
    simp only [List.take_zero, List.nil_append] at e
    show wpList P ops Q rest _ (w.setCells g 0 vs.toArray.toList)
    rw [show vs.toArray.toList = vs by simp, e]
    refine h _ ?_ fun B hB => ⟨rfl, rfl, rfl, by simp, fun i hi => ?_⟩
    · simp [hlt]
    · show (w.heap.setIfInBounds g _)[i]? = _
      rw [Array.getElem?_setIfInBounds, if_neg (by omega)]
end Go.Proofs.Ytbogmkhoppffgaa
