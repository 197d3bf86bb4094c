/- What At returns, against the claims that cover the day. -/
import Derived.Test.YtkncfhdfobcjeaaOvY
namespace Go.Proofs.Ytkncfhdfobcjeaa
open Go.RowKit

/-- What At returns, and that no claim of a lesser rank covers the day. -/
theorem atV_least (C : List Pr) (m : Int) : ∃ s r b, atV C m = .tuple #[.int .i64 s, .int .i64 r, .bool b] ∧ ∀ p ∈ C, onD m p = true → b = true ∧ r ≤ p.r := by
  unfold atV
  cases ha : atC C m with
  | none =>
    refine ⟨_, _, _, rfl, fun p hp h => ?_⟩
    obtain ⟨s, r, h1, _⟩ := rank_least hp h
    rw [ha] at h1
    cases h1
  | some q =>
    obtain ⟨s, r⟩ := q
    refine ⟨_, _, _, rfl, fun p hp h => ?_⟩
    obtain ⟨s2, r2, h1, h2⟩ := rank_least hp h
    rw [ha] at h1
    cases h1
    exact ⟨rfl, h2⟩
end Go.Proofs.Ytkncfhdfobcjeaa
