/- Clip and Before of the reference; Clip of the program. -/
import Derived.Test.YtkncfhdfobcjeaaSpLast
import Derived.Test.YtkncfhdfobcjeaaSpansB
namespace Go.Proofs.Ytkncfhdfobcjeaa
open Go.RowKit

theorem two_span (w : World) (f t : Int) : ∃ W, W = (w.alloc (.cells #[.int .i64 f, .int .i64 t] 48)).alloc (.cells #[.int .i64 f, .int .i64 t] 48) ∧ Ds W (some ⟨w.heap.size + 1, 0, none⟩) 1 [⟨f, t⟩] ∧ Below w.heap.size w W := by
  refine ⟨_, rfl, ⟨Rd.built (cs := #[.int .i64 f, .int .i64 t]) (t := 48) (fr := (0, 0)) ?_ (by simp) rfl, rfl⟩, ((Below.refl _ _).alloc (Nat.le_refl _) _).alloc (by simp) _⟩
  have := heap_alloc_new (w.alloc (.cells #[.int .i64 f, .int .i64 t] 48)) (.cells #[.int .i64 f, .int .i64 t] 48)
  simpa using this

end Go.Proofs.Ytkncfhdfobcjeaa
