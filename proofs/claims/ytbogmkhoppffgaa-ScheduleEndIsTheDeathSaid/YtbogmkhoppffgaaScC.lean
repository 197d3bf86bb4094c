/- The reference's rowLess and ValidRows. -/
import Derived.Test.YtbogmkhoppffgaaScB
import Derived.Test.YtbogmkhoppffgaaKept
import Derived.Deep.DeepCutAuto
namespace Go.Proofs.Ytbogmkhoppffgaa
open Go.RowKit

def rltB (x y : Rw) : Bool := decide (Rlt x y)
theorem rltB_iff (x y : Rw) : rltB x y = true ↔ Rlt x y := by simp [rltB]
theorem rlt_cases (x y : Rw) : ((x.s != y.s) = true ∧ decide (x.s < y.s) = rltB x y) ∨ ((x.s != y.s) = false ∧ (x.b != y.b) = true ∧ decide (x.b < y.b) = rltB x y) ∨ ((x.s != y.s) = false ∧ (x.b != y.b) = false ∧ decide (x.m < y.m) = rltB x y) := by
  have hi := rltB_iff x y
  unfold Rlt at hi
  by_cases h1 : x.s = y.s
  · have e1 : (x.s != y.s) = false := by simp [h1]
    by_cases h2 : x.b = y.b
    · have e2 : (x.b != y.b) = false := by simp [h2]
      exact .inr (.inr ⟨e1, e2, by rw [Bool.eq_iff_iff, decide_eq_true_eq, hi]; omega⟩)
    · have e2 : (x.b != y.b) = true := by simp [h2]
      exact .inr (.inl ⟨e1, e2, by rw [Bool.eq_iff_iff, decide_eq_true_eq, hi]; omega⟩)
  · have e1 : (x.s != y.s) = true := by simp [h1]
    exact .inl ⟨e1, by rw [Bool.eq_iff_iff, decide_eq_true_eq, hi]; omega⟩
theorem row_cases (x : Rw) :
    (RowOk x ∧ decide (x.s < 0) = false ∧ decide (6 ≤ x.s) = false ∧ decide (x.b < 1) = false ∧ decide (5 < x.b) = false ∧ monB x.m = true ∧ decide (x.c < 1) = false ∧ decide (999 < x.c) = false ∧ decide (x.a < 0) = false ∧ decide (1000000000000 < x.a) = false) ∨
    (¬RowOk x ∧ decide (x.s < 0) = true) ∨
    (¬RowOk x ∧ decide (x.s < 0) = false ∧ decide (6 ≤ x.s) = true) ∨
    (¬RowOk x ∧ decide (x.s < 0) = false ∧ decide (6 ≤ x.s) = false ∧ decide (x.b < 1) = true) ∨
    (¬RowOk x ∧ decide (x.s < 0) = false ∧ decide (6 ≤ x.s) = false ∧ decide (x.b < 1) = false ∧ decide (5 < x.b) = true) ∨
    (¬RowOk x ∧ decide (x.s < 0) = false ∧ decide (6 ≤ x.s) = false ∧ decide (x.b < 1) = false ∧ decide (5 < x.b) = false ∧ monB x.m = false) ∨
    (¬RowOk x ∧ decide (x.s < 0) = false ∧ decide (6 ≤ x.s) = false ∧ decide (x.b < 1) = false ∧ decide (5 < x.b) = false ∧ monB x.m = true ∧ decide (x.c < 1) = true) ∨
    (¬RowOk x ∧ decide (x.s < 0) = false ∧ decide (6 ≤ x.s) = false ∧ decide (x.b < 1) = false ∧ decide (5 < x.b) = false ∧ monB x.m = true ∧ decide (x.c < 1) = false ∧ decide (999 < x.c) = true) ∨
    (¬RowOk x ∧ decide (x.s < 0) = false ∧ decide (6 ≤ x.s) = false ∧ decide (x.b < 1) = false ∧ decide (5 < x.b) = false ∧ monB x.m = true ∧ decide (x.c < 1) = false ∧ decide (999 < x.c) = false ∧ decide (x.a < 0) = true) ∨
    (¬RowOk x ∧ decide (x.s < 0) = false ∧ decide (6 ≤ x.s) = false ∧ decide (x.b < 1) = false ∧ decide (5 < x.b) = false ∧ monB x.m = true ∧ decide (x.c < 1) = false ∧ decide (999 < x.c) = false ∧ decide (x.a < 0) = false ∧ decide (1000000000000 < x.a) = true) := by
  unfold RowOk
  by_cases h0 : x.s < 0
  · exact .inr (.inl ⟨by omega, decide_eq_true h0⟩)
  by_cases h1 : 6 ≤ x.s
  · exact .inr (.inr (.inl ⟨by omega, decide_eq_false h0, decide_eq_true h1⟩))
  by_cases h2 : x.b < 1
  · exact .inr (.inr (.inr (.inl ⟨by omega, decide_eq_false h0, decide_eq_false h1, decide_eq_true h2⟩)))
  by_cases h3 : 5 < x.b
  · exact .inr (.inr (.inr (.inr (.inl ⟨by omega, decide_eq_false h0, decide_eq_false h1, decide_eq_false h2, decide_eq_true h3⟩))))
  by_cases h4 : ¬(0 ≤ x.m ∧ x.m ≤ 2399)
  · exact .inr (.inr (.inr (.inr (.inr (.inl ⟨by omega, decide_eq_false h0, decide_eq_false h1, decide_eq_false h2, decide_eq_false h3, (monB_no x.m).2 h4⟩)))))
  by_cases h5 : x.c < 1
  · exact .inr (.inr (.inr (.inr (.inr (.inr (.inl ⟨by omega, decide_eq_false h0, decide_eq_false h1, decide_eq_false h2, decide_eq_false h3, (monB_iff x.m).2 (Decidable.not_not.1 h4), decide_eq_true h5⟩))))))
  by_cases h6 : 999 < x.c
  · exact .inr (.inr (.inr (.inr (.inr (.inr (.inr (.inl ⟨by omega, decide_eq_false h0, decide_eq_false h1, decide_eq_false h2, decide_eq_false h3, (monB_iff x.m).2 (Decidable.not_not.1 h4), decide_eq_false h5, decide_eq_true h6⟩)))))))
  by_cases h7 : x.a < 0
  · exact .inr (.inr (.inr (.inr (.inr (.inr (.inr (.inr (.inl ⟨by omega, decide_eq_false h0, decide_eq_false h1, decide_eq_false h2, decide_eq_false h3, (monB_iff x.m).2 (Decidable.not_not.1 h4), decide_eq_false h5, decide_eq_false h6, decide_eq_true h7⟩))))))))
  by_cases h8 : 1000000000000 < x.a
  · exact .inr (.inr (.inr (.inr (.inr (.inr (.inr (.inr (.inr (⟨by omega, decide_eq_false h0, decide_eq_false h1, decide_eq_false h2, decide_eq_false h3, (monB_iff x.m).2 (Decidable.not_not.1 h4), decide_eq_false h5, decide_eq_false h6, decide_eq_false h7, decide_eq_true h8⟩)))))))))
  exact .inl ⟨by omega, decide_eq_false h0, decide_eq_false h1, decide_eq_false h2, decide_eq_false h3, (monB_iff x.m).2 (Decidable.not_not.1 h4), decide_eq_false h5, decide_eq_false h6, decide_eq_false h7, decide_eq_false h8⟩

end Go.Proofs.Ytbogmkhoppffgaa

