/- small, probe and awake of the laws. -/
import Derived.Test.YthncjohekjnjaaaSpLawA
namespace Go.Proofs.Ythncjohekjnjaaa
open Go.RowKit

theorem pick_bd2 (n k : Int) (h0 : 0 ≤ k) (hk : k ≤ 73108) : 0 ≤ pick n k ∧ pick n k ≤ 73108 := by
  by_cases h : k < 1
  · simp [pick, h]
  · have := pick_bd n k (by omega)
    omega
/-- What small returns: as many spans, of numbers. -/
def RetSm (w : World) (n : Nat) (e : Ending) (w' : World) : Prop := ∃ A c l, e = .returned (.slice A n c) ∧ Ds w' A n l ∧ (∀ s ∈ l, s.ok) ∧ Below w.heap.size w w'
theorem scale_row (s : Int) (w : World) : ∃ (p : Nat) (k : Int), pick s 4 = p ∧ p < 4 ∧ 0 ≤ k ∧ k ≤ 73108 ∧ (w.alloc (.cells #[.int .i64 0, .int .i64 40, .int .i64 400, .int .i64 73108] 3)).cell? ⟨w.heap.size, p, none⟩ = some (.int .i64 k) := by
  obtain ⟨h1, h2⟩ := pick_bd s 4 (by omega)
  have hc : pick s 4 = 0 ∨ pick s 4 = 1 ∨ pick s 4 = 2 ∨ pick s 4 = 3 := by omega
  rcases hc with h | h | h | h
  · exact ⟨0, 0, h, by omega, by omega, by omega, by rw [World.cell?_alloc_new]; rfl⟩
  · exact ⟨1, 40, h, by omega, by omega, by omega, by rw [World.cell?_alloc_new]; rfl⟩
  · exact ⟨2, 400, h, by omega, by omega, by omega, by rw [World.cell?_alloc_new]; rfl⟩
  · exact ⟨3, 73108, h, by omega, by omega, by omega, by rw [World.cell?_alloc_new]; rfl⟩

theorem awake_nf : nf (dset [⟨5, 9⟩, ⟨1, 3⟩, ⟨3, 5⟩]) = [⟨1, 9⟩] := by
  refine (nf_unique (m := [⟨1, 9⟩]) ⟨by show (-1 : Int) < 1; omega, by show (1 : Int) < 9; omega, by show (9 : Int) ≤ 73049; omega, trivial⟩ fun x hx => ?_).symm
  rw [Bool.eq_iff_iff, dset, hx, Bool.true_and, cov_iff, cov_iff]
  simp
  omega

end Go.Proofs.Ythncjohekjnjaaa
