/- Contracts of the tests of a debt and of an amount, in the program and in the reference. -/
import Derived.Test.YtldkblkcbffelaaPlainA
namespace Go.Proofs.Ytldkblkcbffelaa
open Go.RowKit

/-- A debt, by its four numbers. -/
structure Dt where
  d : Int
  c : Int
  u : Int
  a : Int

def Dt.cells (x : Dt) : List Value := [.int .i64 x.d, .int .i64 x.c, .int .i64 x.u, .int .i64 x.a]
def Dt.val (x : Dt) : Value := .agg #[.int .i64 x.d, .int .i64 x.c, .int .i64 x.u, .int .i64 x.a]
def validB (d c u a : Int) : Bool := decide (0 ≤ d ∧ d < 6 ∧ 0 ≤ c ∧ c < 6 ∧ d ≠ c ∧ 1 ≤ u ∧ u ≤ 999 ∧ 1 ≤ a ∧ a ≤ 1000000000000)

set_option maxHeartbeats 1000000 in
theorem valid_any (d c u a : Int) (w : World) :
    Calls Try.prog 34 #[.agg #[.int .i64 d, .int .i64 c, .int .i64 u, .int .i64 a]] w fun e w' => e = .returned (.bool (validB d c u a)) ∧ w.alloc (.cells #[.int .i64 d, .int .i64 c, .int .i64 u, .int .i64 a] 37) = w' := by
  go_enter Try.func34, Try.ntmps34
  go_wp2_with (go_at_call 39; refine (isState_any _ _).mono ?_; rintro e w' ⟨rfl, rfl⟩)
  all_goals go_ret
  all_goals first | refine ⟨ret_bool ?_, rfl⟩ | (obtain rfl : d = c := by assumption
                                                 refine ⟨ret_bool ?_, rfl⟩)
  all_goals (rw [Bool.eq_iff_iff]; simp [validB]; try omega)

set_option maxHeartbeats 1000000 in
theorem debt_any (d c u a : Int) (w : World) :
    Calls Try.prog 37 #[.agg #[.int .i64 d, .int .i64 c, .int .i64 u, .int .i64 a]] w fun e w' => e = .returned (.bool (validB d c u a)) ∧ w.alloc (.cells #[.int .i64 d, .int .i64 c, .int .i64 u, .int .i64 a] 37) = w' := by
  go_enter Try.func37, Try.ntmps37
  go_wp2
  all_goals go_ret
  all_goals first | refine ⟨ret_bool ?_, rfl⟩ | (obtain rfl : d = c := by assumption
                                                 refine ⟨ret_bool ?_, rfl⟩)
  all_goals (rw [Bool.eq_iff_iff]; simp [validB]; try omega)

def fitsB (v : Int) : Bool := decide (-1000000000000 ≤ v ∧ v ≤ 1000000000000)

theorem fits_any (v : Int) (w : World) :
    Calls Try.prog 35 #[.int .i64 v] w fun e w' => e = .returned (.bool (fitsB v)) ∧ w = w' := by
  go_enter Try.func35, Try.ntmps35
  go_wp2
  all_goals go_ret
  all_goals refine ⟨ret_bool ?_, rfl⟩
  all_goals (rw [Bool.eq_iff_iff]; simp [fitsB]; try omega)

theorem wide_any (v : Int) (w : World) :
    Calls Try.prog 38 #[.int .i64 v] w fun e w' => e = .returned (.bool (!fitsB v)) ∧ w = w' := by
  go_enter Try.func38, Try.ntmps38
  go_wp2
  all_goals go_ret
  all_goals refine ⟨ret_bool ?_, rfl⟩
  all_goals (rw [Bool.eq_iff_iff]; simp [fitsB]; try omega)
end Go.Proofs.Ytldkblkcbffelaa
