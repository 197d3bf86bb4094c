/- The sanity check of the statements: the example of the chapter. -/
import Derived.Test.YtbogmkhoppffgaaScH
import Derived.Test.YtbogmkhoppffgaaScR
import Derived.KernelRfl
namespace Go.Proofs.Ytbogmkhoppffgaa
open Go.RowKit

def awl : List Rw := [⟨1, 1, 10, 1, 5, false⟩, ⟨1, 1, 12, 1, 7, false⟩]
theorem aw_tot : totV awl 1 9 13 = (24, 0) := by kernel_rfl
theorem aw_due : dueV awl 1 12 = (7, 0) := by kernel_rfl
theorem aw_val : vldB awl = true := by kernel_rfl
theorem aw_amt : amt awl 1 1 11 = 5 := by kernel_rfl

set_option maxHeartbeats 2000000 in
theorem awake_any (w : World) : Calls Try.prog 11 #[] w fun e w' => e = .returned (.bool true) ∧ Below w.heap.size w w' := by
  go_enter Try.func11, Try.ntmps11
  go_wp2_with fail
  obtain ⟨W, hW, hd, hb⟩ : ∃ W, W = w.alloc (.cells #[.int .i64 1, .int .i64 1, .int .i64 10, .int .i64 1, .int .i64 5, .bool false, .int .i64 1, .int .i64 1, .int .i64 12, .int .i64 1, .int .i64 7, .bool false] 52) ∧ Dr W (some ⟨w.heap.size, 0, none⟩) 2 awl ∧ Below w.heap.size w W :=
    ⟨_, rfl, ⟨Rd.built (cs := #[.int .i64 1, .int .i64 1, .int .i64 10, .int .i64 1, .int .i64 5, .bool false, .int .i64 1, .int .i64 1, .int .i64 12, .int .i64 1, .int .i64 7, .bool false]) (heap_alloc_new w _) (by simp) rfl, rfl⟩, (Below.refl _ _).alloc (Nat.le_refl _) _⟩
  rw [← hW]
  clear hW
  refine (total_any 1 9 13 hd (by unfold maxLen; omega) ⟨by omega, by omega⟩).mono ?_
  rintro e w1 ⟨rfl, hb1⟩
  rw [aw_tot, pairI_mk]
  have hd1 := hd.below hb1
  have hbb1 := hb.trans (hb1.mono hb.size)
  clear hd hb hb1
  go_wp2_with fail
  refine (duetop_any 1 12 hd1 (by unfold maxLen; omega)).mono ?_
  rintro e w2 ⟨rfl, hb2⟩
  rw [aw_due, pairI_mk]
  have hd2 := hd1.below hb2
  have hbb2 := hbb1.trans (hb2.mono hbb1.size)
  clear hd1 hbb1 hb2
  go_wp2_with fail
  refine (valid_any hd2 (by unfold maxLen; omega)).mono ?_
  rintro e w3 ⟨rfl, hb3⟩
  rw [aw_val]
  have hd3 := hd2.below hb3
  have hbb3 := hbb2.trans (hb3.mono hbb2.size)
  clear hd2 hbb2 hb3
  go_wp2_with fail
  refine (amount_any 1 1 11 hd3 (by unfold maxLen; omega)).mono ?_
  rintro e w4 ⟨rfl, hb4⟩
  rw [aw_amt]
  go_wp2_with fail
  go_ret
  exact ⟨rfl, hbb3.trans (hb4.mono hbb3.size)⟩
end Go.Proofs.Ytbogmkhoppffgaa
