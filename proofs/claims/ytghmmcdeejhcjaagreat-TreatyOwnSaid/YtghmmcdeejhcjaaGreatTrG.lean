/- within, valid and Check of the program. -/
import Derived.Test.YtghmmcdeejhcjaaGreatTrA
import Derived.Test.YtghmmcdeejhcjaaGreatTreatyQ
import Derived.Test.YtghmmcdeejhcjaaGreatKept
namespace Go.Proofs.YtghmmcdeejhcjaaGreat
open Go.RowKit

theorem okR_parts (r : Ru) : okR r = (isD r.f && (decide (0 ≤ r.d) && decide (r.d ≤ 73049)) && (decide (0 ≤ r.p) && decide (r.p ≤ 73049)) && (decide (0 ≤ r.b) && decide (r.b ≤ 100)) && okM (-1) r.m) := by
  unfold okR
  rw [Bool.eq_iff_iff]
  simp only [Bool.and_eq_true, decide_eq_true_eq, isD_iff]
  constructor
  · rintro ⟨h, h2⟩
    exact ⟨⟨⟨⟨by omega, by omega⟩, by omega⟩, by omega⟩, h2⟩
  · rintro ⟨⟨⟨⟨h1, h2⟩, h3⟩, h4⟩, h5⟩
    exact ⟨by omega, h5⟩

end Go.Proofs.YtghmmcdeejhcjaaGreat
