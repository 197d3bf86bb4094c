/- Whether a matrix differs from the empty one. -/
import Derived.Test.YtldkblkcbffelaaLedgerB
import Derived.ChangeKeysEq
namespace Go.Proofs.Ytldkblkcbffelaa
open Go.RowKit

/-- Some entry of the matrix is not 0. -/
def nz (M : Nat → Nat → Int) : Bool := !((List.range 6).all fun a => (List.range 6).all fun s => M a s == 0)
theorem nz_iff (M : Nat → Nat → Int) : nz M = true ↔ ∃ a s, a < 6 ∧ s < 6 ∧ M a s ≠ 0 := by
  simp only [nz, Bool.not_eq_true', List.all_eq_false, List.mem_range]
  constructor
  · rintro ⟨a, ha, h⟩
    simp only [Bool.not_eq_true, List.all_eq_false, List.mem_range] at h
    obtain ⟨s, hs, h⟩ := h
    exact ⟨a, s, ha, hs, by simpa using h⟩
  · rintro ⟨a, s, ha, hs, h⟩
    refine ⟨a, ha, ?_⟩
    simp only [Bool.not_eq_true, List.all_eq_false, List.mem_range]
    exact ⟨s, hs, by simpa using h⟩

theorem run_eqItems_all {P : Program} (d : Nat) (e : TypeId) (n : Nat) (xs ys : Array Value) (g : Nat → Bool) (w : World) : ∀ is : List Nat,
    (∀ i ∈ is, ∃ a b, (part e xs (i * n)).run P w = .ok a w ∧ (part e ys (i * n)).run P w = .ok b w ∧ (Op.equalIn d e a b).run P w = .ok (g i) w) →
    (Op.eqItems d e n xs ys is).run P w = .ok (is.all g) w
  | [], _ => by simp [Op.eqItems]
  | i :: is, h => by
    obtain ⟨a, b, h1, h2, h3⟩ := h i (by simp)
    have hr := run_eqItems_all d e n xs ys g w is fun j hj => h j (by simp [hj])
    simp only [Op.eqItems, Sem.run_bind, h1, h2, h3, Result.andThen_ok, List.all_cons]
    cases g i
    · simp
    · simpa using hr

theorem matCells_get (M : Nat → Nat → Int) {i : Nat} (hi : i < 36) : (matCells M).toArray[i]? = some (.int .i64 (M (i / 6) (i % 6))) := by
  rw [List.getElem?_toArray]
  simp [matCells, hi]
theorem matCells_row (M : Nat → Nat → Int) {a s : Nat} (ha : a < 6) (hs : s < 6) : ((matCells M).toArray.extract (a * 6) (a * 6 + 6))[s]? = some (.int .i64 (M a s)) := by
  rw [Array.getElem?_extract, if_pos (by simp [matCells_length]; omega), matCells_get M (by omega), show (a * 6 + s) / 6 = a by omega, show (a * 6 + s) % 6 = s by omega]

theorem run_equal_mat (M N : Nat → Nat → Int) (w : World) :
    (Op.equalIn 10000 58 (.agg (matCells M).toArray) (.agg (matCells N).toArray)).run Try.prog w = .ok ((List.range 6).all fun a => (List.range 6).all fun s => M a s == N a s) w := by
  have hi1 : ∃ i, Try.prog.info? 44 = some i := info_of_underlying Try.underlying44
  have hi0 : ∃ i, Try.prog.info? 3 = some i := info_of_underlying Try.underlying3
  obtain ⟨i1, hi1⟩ := hi1
  obtain ⟨i0, hi0⟩ := hi0
  have c1 : Try.prog.cellsOf 44 = 6 := by kernel_rfl
  have c0 : Try.prog.cellsOf 3 = 1 := by kernel_rfl
  rw [show (10000 : Nat) = 9999 + 1 from rfl, run_equalIn_array w 9999 _ _ Try.underlying58 hi1, c1]
  refine run_eqItems_all _ _ _ _ _ _ _ _ fun a ha => ?_
  have ha6 : a < 6 := by simpa using ha
  refine ⟨.agg ((matCells M).toArray.extract (a * 6) (a * 6 + 6)), .agg ((matCells N).toArray.extract (a * 6) (a * 6 + 6)), ?_, ?_, ?_⟩
  · simp [part, isAgg, run_underlying Try.underlying44]
  · simp [part, isAgg, run_underlying Try.underlying44]
  · rw [show (9999 : Nat) = 9998 + 1 from rfl, run_equalIn_array w 9998 _ _ Try.underlying44 hi0, c0]
    refine run_eqItems_all _ _ _ _ _ _ _ _ fun s hs => ?_
    have hs6 : s < 6 := by simpa using hs
    refine ⟨.int .i64 (M a s), .int .i64 (N a s), run_part_plain w (by kernel_rfl) ?_, run_part_plain w (by kernel_rfl) ?_, ?_⟩
    · rw [Nat.mul_one]; exact matCells_row M ha6 hs6
    · rw [Nat.mul_one]; exact matCells_row N ha6 hs6
    · exact run_equalIn_int w _ _ _ _ _ _ Try.underlying3

theorem run_neq_mat (M : Nat → Nat → Int) (w : World) :
    (binOp .neq 58 (.agg (matCells M).toArray) (.agg (matCells fun _ _ => 0).toArray)).run Try.prog w = .ok (.bool (nz M)) w := by
  rw [run_neq_struct, run_equal_mat]
  rfl
theorem guard_mat (M N : Nat → Nat → Int) (x y : Operand) (w : World) :
    (eqGuard .neq 58 x y (.agg (matCells M).toArray) (.agg (matCells N).toArray)).run Try.prog w = .ok () w :=
  run_eqGuard_agg w _ _ _ _ _ _ (by kernel_rfl)
theorem run_equal_zero (M : Nat → Nat → Int) (w : World) :
    (Op.equalIn 10000 58 (.agg (matCells M).toArray) (.agg #[.int .i64 0, .int .i64 0, .int .i64 0, .int .i64 0, .int .i64 0, .int .i64 0, .int .i64 0, .int .i64 0, .int .i64 0, .int .i64 0, .int .i64 0, .int .i64 0, .int .i64 0, .int .i64 0, .int .i64 0, .int .i64 0, .int .i64 0, .int .i64 0, .int .i64 0, .int .i64 0, .int .i64 0, .int .i64 0, .int .i64 0, .int .i64 0, .int .i64 0, .int .i64 0, .int .i64 0, .int .i64 0, .int .i64 0, .int .i64 0, .int .i64 0, .int .i64 0, .int .i64 0, .int .i64 0, .int .i64 0, .int .i64 0])).run Try.prog w = .ok (!(nz M)) w := by
  have h := run_equal_mat M (fun _ _ => 0) w
  have e : (!(nz M)) = (List.range 6).all fun a => (List.range 6).all fun s => M a s == (fun (_ _ : Nat) => (0 : Int)) a s := by unfold nz; rw [Bool.not_not]
  rw [e]
  exact h
theorem guard_zero (M : Nat → Nat → Int) (x y : Operand) (w : World) :
    (eqGuard .neq 58 x y (.agg (matCells M).toArray) (.agg #[.int .i64 0, .int .i64 0, .int .i64 0, .int .i64 0, .int .i64 0, .int .i64 0, .int .i64 0, .int .i64 0, .int .i64 0, .int .i64 0, .int .i64 0, .int .i64 0, .int .i64 0, .int .i64 0, .int .i64 0, .int .i64 0, .int .i64 0, .int .i64 0, .int .i64 0, .int .i64 0, .int .i64 0, .int .i64 0, .int .i64 0, .int .i64 0, .int .i64 0, .int .i64 0, .int .i64 0, .int .i64 0, .int .i64 0, .int .i64 0, .int .i64 0, .int .i64 0, .int .i64 0, .int .i64 0, .int .i64 0, .int .i64 0])).run Try.prog w = .ok () w :=
  run_eqGuard_agg w _ _ _ _ _ _ (by kernel_rfl)
end Go.Proofs.Ytldkblkcbffelaa
