/- The n-th day of a normal list and the days before it, in plain Lean. -/
import Derived.Test.YtjhbicopmgdlcaaSpNth
import Derived.Test.YtjhbicopmgdlcaaSpansB
namespace Go.Proofs.Ytjhbicopmgdlcaa

theorem nthL_ok : ∀ {l : List Sp} {lo : Int} {n : Int}, NormFrom lo l → 0 ≤ n → n < lenL l → ∃ d, nthL l n = (d, true) ∧ lo < d ∧ d < 73049 ∧ cov l d = true ∧ befL l d = n ∧ befL l (d + 1) = n + 1
  | [], _, n, _, h0, h1 => by
    have : lenL [] = 0 := rfl
    omega
  | s :: r, lo, n, ⟨h1, h2, h3, h4⟩, h0, hn => by
    have e1 : lenL (s :: r) = (s.t - s.f) + lenL r := rfl
    have e2 : ∀ d, befL (s :: r) d = (if s.f < d then min s.t d - s.f else 0) + befL r d := fun _ => rfl
    unfold nthL
    by_cases h : n < s.t - s.f
    · rw [if_pos h]
      refine ⟨s.f + n, rfl, by omega, by omega, ?_, ?_, ?_⟩
      · rw [cov_cons, (inS_iff s _).2 (by omega)]
        rfl
      · rw [e2, befL_low h4 (by omega)]
        by_cases h5 : s.f < s.f + n
        · rw [if_pos h5]; omega
        · rw [if_neg h5]; omega
      · rw [e2, befL_low h4 (by omega), if_pos (by omega)]
        omega
    · rw [if_neg h]
      obtain ⟨d, g1, g2, g3, g4, g5, g6⟩ := nthL_ok (n := n - (s.t - s.f)) h4 (by omega) (by omega)
      refine ⟨d, g1, by omega, g3, ?_, ?_, ?_⟩
      · rw [cov_cons, g4, Bool.or_true]
      · rw [e2, g5, if_pos (by omega)]
        omega
      · rw [e2, g6, if_pos (by omega)]
        omega
end Go.Proofs.Ytjhbicopmgdlcaa
