/- Fork, said of the list of debts. -/
import Derived.Test.YtldkblkcbffelaaLawA
import Derived.Test.YtldkblkcbffelaaForkA
namespace Go.Proofs.Ytldkblkcbffelaa
open Go.RowKit

theorem fork_of (lb mb : Nat) (L : List Dt) (w : World) (h : Led w lb mb L) :
    Calls Try.prog 25 #[.pointer (some ⟨lb, 0, none⟩)] w fun e w' => ∃ lb2 mb2, e = .returned (.pointer (some ⟨lb2, 0, none⟩)) ∧ Led w' lb2 mb2 L ∧ Below w.heap.size w w' ∧ w.heap.size ≤ lb2 ∧ w.heap.size ≤ mb2 := by
  obtain ⟨m, hA, hR, hm, hok⟩ := h
  refine (fork_led lb mb m w hA).mono ?_
  rintro e w' ⟨lb2, mb2, m2, rfl, hA2, hlook, hlen, hb, h1, h2⟩
  refine ⟨lb2, mb2, rfl, ⟨m2, hA2, fun u a b => ?_, by omega, hok⟩, hb, h1, h2⟩
  rw [← hR u a b]
  unfold mat
  rw [hlook u]
end Go.Proofs.Ytldkblkcbffelaa
