/- Between; a nil ledger; a new ledger. -/
import Derived.Test.YtldkblkcbffelaaLedgerA
namespace Go.Proofs.Ytldkblkcbffelaa
open Go.RowKit

def rowVal (M : Nat → Nat → Int) (a : Nat) : Value := .agg ((List.range 6).map fun j => Value.int .i64 (M a j)).toArray

theorem index_mat (M : Nat → Nat → Int) : ∀ (a : Nat) (_ : a < 6) (w : World), (Instr.index 58 (.agg (matCells M).toArray) (.int .i64 (a : Int))).run Try.prog w = .ok (rowVal M a) w
  | 0, _, _ => by kernel_rfl
  | 1, _, _ => by kernel_rfl
  | 2, _, _ => by kernel_rfl
  | 3, _, _ => by kernel_rfl
  | 4, _, _ => by kernel_rfl
  | 5, _, _ => by kernel_rfl
  | n + 6, h, _ => by omega
theorem index_row (M : Nat → Nat → Int) (a : Nat) : ∀ (s : Nat) (_ : s < 6) (w : World), (Instr.index 44 (rowVal M a) (.int .i64 (s : Int))).run Try.prog w = .ok (.int .i64 (M a s)) w
  | 0, _, _ => by kernel_rfl
  | 1, _, _ => by kernel_rfl
  | 2, _, _ => by kernel_rfl
  | 3, _, _ => by kernel_rfl
  | 4, _, _ => by kernel_rfl
  | 5, _, _ => by kernel_rfl
  | n + 6, h, _ => by omega

set_option maxHeartbeats 400000 in
theorem between_led (lb mb s t : Nat) (m : List (Int × (Nat → Nat → Int))) (c : Int) (w : World) (hs : s < 6) (ht : t < 6) (h : LedA w lb mb m) :
    Calls Try.prog 20 #[.pointer (some ⟨lb, 0, none⟩), .int .i64 s, .int .i64 t, .int .i64 c] w fun e w' => e = .returned (.int .i64 (mat m c s t)) ∧ w = w' := by
  have hl := h.lookup c
  have hcell := h.cell
  have h1 := index_mat (mat m c) s hs
  have h2 := index_row (mat m c) s t ht
  have hst : decide ((s : Int) < 6) = true := by simp; omega
  have htt : decide ((t : Int) < 6) = true := by simp; omega
  generalize hM : mat m c = M at *
  go_enter Try.func20, Try.ntmps20
  go_wp2_with (go_at_call 39; refine (isState_any _ _).mono ?_; rintro e w' ⟨rfl, rfl⟩)
  go_ret
  exact ⟨rfl, rfl⟩

set_option maxHeartbeats 400000 in
/-- A number that is no state. -/
theorem between_out (lb : Nat) (s t c : Int) (w : World) (hs : ¬(0 ≤ s ∧ s < 6 ∧ 0 ≤ t ∧ t < 6)) :
    Calls Try.prog 20 #[.pointer (some ⟨lb, 0, none⟩), .int .i64 s, .int .i64 t, .int .i64 c] w fun e w' => e = .returned (.int .i64 0) ∧ w = w' := by
  by_cases hst : (decide ((0 : Int) ≤ s) && decide (s < 6)) = true
  · have htt : (decide ((0 : Int) ≤ t) && decide (t < 6)) = false := by simp at hst ⊢; omega
    go_enter Try.func20, Try.ntmps20
    go_wp2_with (go_at_call 39; refine (isState_any _ _).mono ?_; rintro e w' ⟨rfl, rfl⟩)
    go_ret
    exact ⟨rfl, rfl⟩
  · have hst' : (decide ((0 : Int) ≤ s) && decide (s < 6)) = false := by simpa using hst
    clear hst
    go_enter Try.func20, Try.ntmps20
    go_wp2_with (go_at_call 39; refine (isState_any _ _).mono ?_; rintro e w' ⟨rfl, rfl⟩)
    go_ret
    exact ⟨rfl, rfl⟩

theorem between_nil (s t c : Int) (w : World) :
    Calls Try.prog 20 #[.pointer none, .int .i64 s, .int .i64 t, .int .i64 c] w fun e w' => e = .returned (.int .i64 0) ∧ w = w' := by
  go_enter Try.func20, Try.ntmps20
  go_wp2_with fail
  go_ret
  exact ⟨rfl, rfl⟩

theorem position_nil (s c : Int) (w : World) :
    Calls Try.prog 21 #[.pointer none, .int .i64 s, .int .i64 c] w fun e w' => e = .returned (.int .i64 0) ∧ w = w' := by
  go_enter Try.func21, Try.ntmps21
  go_wp2_with fail
  go_ret
  exact ⟨rfl, rfl⟩

theorem new_any (w : World) :
    Calls Try.prog 16 #[] w fun e w' => e = .returned (.pointer (some ⟨w.heap.size + 1, 0, none⟩)) ∧ Below w.heap.size w w' ∧ LedA w' (w.heap.size + 1) w.heap.size [] := by
  have hmm := @run_makeMap Try.prog
  go_enter Try.func16, Try.ntmps16
  go_wp2
  go_ret
  refine ⟨rfl, ((Below.refl _ _).alloc (Nat.le_refl _) _).alloc (by simp) _, ⟨?_, (IMap.made w).alloc _, by simp⟩⟩
  have h := heap_alloc_new (w.alloc (.map #[] 0)) (.cells #[.map (some w.heap.size)] 55)
  rw [World.size_alloc] at h
  exact h
end Go.Proofs.Ytldkblkcbffelaa
