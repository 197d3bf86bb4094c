/- awake of the laws of chapter 14. -/
import Derived.Test.YtghmmcdeejhcjaaGreatTrE
namespace Go.Proofs.YtghmmcdeejhcjaaGreat
open Go.RowKit

def awX (b : Nat) : List Rv := [⟨⟨0, 0, 0, 0, []⟩, none, 0⟩, ⟨⟨100, 0, 0, 0, [1, 2]⟩, some ⟨b, 0, none⟩, 2⟩]
theorem awX_nf (b : Nat) : nf (memT ((awX b).map Rv.r) 1) = [⟨100, 73049⟩] := by
  refine (nf_unique (m := [⟨100, 73049⟩]) ⟨by show (-1 : Int) < 100; omega, by show (100 : Int) < 73049; omega, by show (73049 : Int) ≤ 73049; omega, trivial⟩ fun x hx => ?_).symm
  have hx2 := (isD_iff x).1 hx
  have ha : atT ((awX b).map Rv.r) x = if 100 ≤ x then some ⟨100, 0, 0, 0, [1, 2]⟩ else some ⟨0, 0, 0, 0, []⟩ := by
    have e : (awX b).map Rv.r = ([] ++ [⟨0, 0, 0, 0, []⟩]) ++ [⟨100, 0, 0, 0, [1, 2]⟩] := rfl
    rw [e, atT_snoc _ _ hx, atT_snoc _ _ hx]
    split
    · rfl
    · rw [if_pos (by show (0 : Int) ≤ x; omega)]
  rw [Bool.eq_iff_iff, cov_iff]
  unfold memT
  rw [ha]
  by_cases h : 100 ≤ x
  · rw [if_pos h]
    simp
    omega
  · rw [if_neg h]
    simp
    omega
set_option maxHeartbeats 2000000 in
theorem awk14_any (w : World) : Calls Tryz.prog 8 #[] w fun e w' => e = .returned (.bool true) ∧ Below w.heap.size w w' := by
  go_enter Tryz.func8, Tryz.ntmps8
  go_wp2_with fail
  obtain ⟨W, hW, hX, hb⟩ : ∃ W, W = (w.alloc (.cells #[.int .i64 1, .int .i64 2] 3)).alloc (.cells #[.int .i64 0, .int .i64 0, .int .i64 0, .int .i64 0, .slice none 0 0, .int .i64 100, .int .i64 0, .int .i64 0, .int .i64 0, .slice (some ⟨w.heap.size, 0, none⟩) 2 2] 31) ∧ Rus W W.heap.size (some ⟨w.heap.size + 1, 0, none⟩) 2 (awX w.heap.size) ∧ Below w.heap.size w W := by
    refine ⟨_, rfl, ⟨?_, rfl, fun x hx => ?_⟩, ((Below.refl _ w).alloc (Nat.le_refl _) _).alloc (by simp) _⟩
    · have h1 := heap_alloc_new (w.alloc (.cells #[.int .i64 1, .int .i64 2] 3)) (.cells #[.int .i64 0, .int .i64 0, .int .i64 0, .int .i64 0, .slice none 0 0, .int .i64 100, .int .i64 0, .int .i64 0, .int .i64 0, .slice (some ⟨w.heap.size, 0, none⟩) 2 2] 31)
      rw [World.size_alloc] at h1
      exact Rd.built h1 (by simp) rfl
    · have h2 : ((w.alloc (.cells #[.int .i64 1, .int .i64 2] 3)).alloc (.cells #[.int .i64 0, .int .i64 0, .int .i64 0, .int .i64 0, .slice none 0 0, .int .i64 100, .int .i64 0, .int .i64 0, .int .i64 0, .slice (some ⟨w.heap.size, 0, none⟩) 2 2] 31)).heap[w.heap.size]? = some (.cells #[.int .i64 1, .int .i64 2] 3 (0, 0)) := (Below.heap_alloc _ _ _ (by simp)).trans (World.alloc_heap_new w _)
      simp [awX] at hx
      rcases hx with rfl | rfl
      · exact Rd.zero _ _ _ _
      · exact Rd.built (cs := #[.int .i64 1, .int .i64 2]) h2 (by simp; omega) rfl
  rw [← hW]
  clear hW
  refine (tmembership_any 1 hX (by omega) (by intro x hx; simp [awX] at hx; rcases hx with rfl | rfl <;> simp)).mono ?_
  intro e w1 hr
  unfold RetNf at hr
  rw [awX_nf] at hr
  obtain ⟨A1, c1, rfl, hown, hb1⟩ := hr
  obtain ⟨_, g, o, rfl, _, e0, e1⟩ := sp_cells (Rd.ofOwn hown) (show [Sp.mk 100 73049][0]? = some ⟨100, 73049⟩ from rfl)
  have e0' : w1.cell? ⟨g, o, none⟩ = some (.int .i64 100) := by simpa using e0
  have e1' : w1.cell? ⟨g, o + 1, none⟩ = some (.int .i64 73049) := by simpa using e1
  go_wp2_with fail
  go_ret
  exact ⟨rfl, hb.trans (hb1.mono hb.size)⟩
end Go.Proofs.YtghmmcdeejhcjaaGreat
