/- awake of the laws of chapter 17. -/
import Derived.Test.YtkncfhdfobcjeaaOvW
namespace Go.Proofs.Ytkncfhdfobcjeaa
open Go.RowKit

set_option maxHeartbeats 2000000 in
theorem awk_any (w : World) : Calls Try.prog 29 #[] w fun e w' => e = .returned (.bool true) ∧ Below w.heap.size w w' := by
  go_enter Try.func29, Try.ntmps29
  go_wp2_with fail
  obtain ⟨W, hW, hds, hb⟩ : ∃ W, W = w.alloc (.cells #[.int .i64 1, .int .i64 1, .int .i64 0, .int .i64 10, .int .i64 1, .int .i64 4, .int .i64 10, .int .i64 20, .int .i64 2, .int .i64 4, .int .i64 10, .int .i64 20, .int .i64 2, .int .i64 1, .int .i64 20, .int .i64 30] 50) ∧ Rd W W.heap.size 4 (some ⟨w.heap.size, 0, none⟩) 4 (flat Pr.cells awC) ∧ Below w.heap.size w W :=
    ⟨_, rfl, Rd.built (heap_alloc_new w _) (by simp) rfl, (Below.refl _ _).alloc (Nat.le_refl _) _⟩
  rw [← hW]
  clear hW
  refine (resolve_any hds rfl (by omega)).mono ?_
  intro e w1 hr
  obtain ⟨A1, c1, R, rfl, hR, -, -, hrd, hb1⟩ := hr.open (n := 4) (by decide)
  obtain rfl := res_unique hR aw_res
  clear hR
  obtain ⟨_, g, o, rfl, hgb, hc⟩ := hrd.elem pc_len (show (awR.map Pc.pr)[1]? = some ⟨1, 4, 10, 20⟩ from rfl) (by omega)
  have e0 : w1.cell? ⟨g, o + 4, none⟩ = some (.int .i64 10) := hc 0 _ rfl
  have e1 : w1.cell? ⟨g, o + 5, none⟩ = some (.int .i64 20) := hc 1 _ rfl
  have e2 : w1.cell? ⟨g, o + 6, none⟩ = some (.int .i64 1) := hc 2 _ rfl
  have e3 : w1.cell? ⟨g, o + 7, none⟩ = some (.int .i64 4) := hc 3 _ rfl
  have hl : awR.length = 3 := rfl
  rw [hl]
  clear hc hl
  go_wp2_with fail
  go_ret
  exact ⟨rfl, hb.trans (hb1.mono hb.size)⟩
end Go.Proofs.Ytkncfhdfobcjeaa
