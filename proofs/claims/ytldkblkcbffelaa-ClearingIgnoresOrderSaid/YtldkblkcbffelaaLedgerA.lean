/- The program's ledger: what it reads as in memory; Between and Position. -/
import Derived.Test.YtldkblkcbffelaaMatrixA
import Derived.Test.YtldkblkcbffelaaMaps
import Derived.StillTailTactics
namespace Go.Proofs.Ytldkblkcbffelaa
open Go.RowKit

def matCells (M : Nat → Nat → Int) : List Value := (List.range 36).map fun i => .int .i64 (M (i / 6) (i % 6))
def matVal (M : Nat → Nat → Int) : Value := .agg (matCells M).toArray
theorem matCells_length (M : Nat → Nat → Int) : (matCells M).length = 36 := by simp [matCells]
theorem matCells_one (M : Nat → Nat → Int) : ∀ v ∈ matCells M, v.oneCell' = true := by
  intro v hv
  obtain ⟨i, _, rfl⟩ := List.mem_map.1 hv
  rfl
theorem matCells_at (M : Nat → Nat → Int) {a s : Nat} (ha : a < 6) (hs : s < 6) : (matCells M)[a * 6 + s]? = some (.int .i64 (M a s)) := by
  have h1 : a * 6 + s < 36 := by omega
  have h2 : (a * 6 + s) / 6 = a := by omega
  have h3 : (a * 6 + s) % 6 = s := by omega
  simp [matCells, h1, h2, h3]
theorem info_matrix : (Try.prog.info? 58).map (·.size) = some 36 := by kernel_rfl

/-- The ledger at block lb, its map at block mb, the matrices by currency. -/
structure LedA (w : World) (lb mb : Nat) (m : List (Int × (Nat → Nat → Int))) : Prop where
  led : w.heap[lb]? = some (.cells #[.map (some mb)] 55 (0, 0))
  map : IMap matVal w mb m
  nodup : (m.map (·.1)).Nodup

def mat (m : List (Int × (Nat → Nat → Int))) (c : Int) : Nat → Nat → Int := (look m c).getD fun _ _ => 0

theorem zeroMat (w : World) : (zeroValue 58).run Try.prog w = .ok (matVal fun _ _ => 0) w := by kernel_rfl

theorem LedA.lookup {w : World} {lb mb : Nat} {m : List (Int × (Nat → Nat → Int))} (h : LedA w lb mb m) (c : Int) :
    (Instr.lookup 53 (.map (some mb)) (.int .i64 c) false).run Try.prog w = .ok (.agg (matCells (mat m c)).toArray) w := by
  have hl := (run_lookup_imap (P := Try.prog) Try.underlying53 Try.underlying3 zeroMat h.map c).1
  rw [hl]
  unfold mat
  cases look m c <;> rfl
theorem LedA.cell {w : World} {lb mb : Nat} {m : List (Int × (Nat → Nat → Int))} (h : LedA w lb mb m) : w.cell? ⟨lb, 0, none⟩ = some (.map (some mb)) := by
  rw [cell_of_row w lb 0 _ _ _ h.led]; rfl

set_option maxHeartbeats 400000 in
theorem position_led (lb mb s : Nat) (m : List (Int × (Nat → Nat → Int))) (c : Int) (B : Int) (w : World) (hs : s < 6) (h : LedA w lb mb m) (hB : MBd B (mat m c)) (hB2 : B ≤ 1000000000000000) (hB0 : 0 ≤ B) :
    Calls Try.prog 21 #[.pointer (some ⟨lb, 0, none⟩), .int .i64 s, .int .i64 c] w fun e w' => e = .returned (.int .i64 (colSum (mat m c) s 6)) ∧ Below w.heap.size w w' := by
  have hl := h.lookup c
  have hcell := h.cell
  have hst : (decide ((0 : Int) ≤ (s : Int)) && decide ((s : Int) < 6)) = true := by simp; omega
  have hst2 : decide ((s : Int) < 6) = true := by simp; omega
  generalize hM : mat m c = M at *
  go_enter Try.func21, Try.ntmps21
  go_wp2_with (first
    | (go_at_call 39; refine (isState_any _ _).mono ?_; rintro e w' ⟨rfl, rfl⟩)
    | (refine wpList_store_fresh rfl 58 (.tmp 7) (.tmp 20) rfl _ (matCells M) rfl rfl ?_ ?_ ?_ ?_; (simp [matCells_length]); (rw [matCells_length]; exact info_matrix); (exact matCells_one M))
    | (go_at_call 36; refine (position_any _ _ s M B _ hs hB hB2 hB0 ?_).mono ?_; (intro a ha; rw [World.cell?_alloc_new, Nat.zero_add, List.getElem?_toArray]; exact matCells_at M ha hs); rintro e w' ⟨rfl, rfl⟩))
  go_ret
  exact ⟨rfl, (Below.refl _ _).alloc (Nat.le_refl _) _⟩
end Go.Proofs.Ytldkblkcbffelaa
