/- The reference's Normal and add. -/
import Derived.Test.YtghmmcdeejhcjaaGreatSpRefA
namespace Go.Proofs.YtghmmcdeejhcjaaGreat
open Go.RowKit

/-- What bounds the k-th span from below. -/
def Prev (l : List Sp) (k : Nat) (b : Int) : Prop := (k = 0 ∧ b = -1) ∨ (0 < k ∧ 0 ≤ b ∧ ∃ y, l[k - 1]? = some y ∧ y.t = b)

/-- What add returns, whatever the array is. -/
theorem addS_last (l : List Sp) (a b : Int) : l = [] ∨ ∃ l' p, l = l' ++ [p] ∧ addS l a b = if p.t = a then l' ++ [⟨p.f, b⟩] else l' ++ [p, ⟨a, b⟩] := by
  rcases List.eq_nil_or_concat l with rfl | ⟨l', p, rfl⟩
  · exact .inl rfl
  · rw [List.concat_eq_append]
    exact .inr ⟨l', p, rfl, addS_snoc l' p a b⟩
theorem flat_set_last (O : List Sp) (q : Sp) (v : Int) : (flat Sp.cells (O ++ [q])).set (O.length * 2 + 1) (.int .i64 v) = flat Sp.cells (O ++ [⟨q.f, v⟩]) := by
  rw [flat_append, flat_append, flat_one, flat_one, List.set_append_right _ _ (by rw [sp_flen]; omega), sp_flen, show O.length * 2 + 1 - O.length * 2 = 1 by omega]
  rfl

end Go.Proofs.YtghmmcdeejhcjaaGreat
