/- What the laws share: the lengths and the bounds of what a ledger holds; plain Lean. -/
import Derived.Test.YtldkblkcbffelaaAwakeA
import Derived.Test.YtldkblkcbffelaaSamL
namespace Go.Proofs.Ytldkblkcbffelaa
open Go.RowKit

theorem held_len (l : List Rw) : (heldOf [] (debtsOf l)).length ≤ 20 := by
  have h := heldOf_length (debtsOf l) []
  have h2 : (debtsOf l).length ≤ 20 := by simp [debtsOf, List.length_take]; omega
  simp only [List.length_nil] at h
  omega

/-- The sum of the net debts of the first k states to s. -/
def betSum (L : List Dt) (s : Nat) (u : Int) : Nat → Int
  | 0 => 0
  | k + 1 => betSum L s u k + rbet L (k : Nat) s u
theorem betSum_col (L : List Dt) (s : Nat) (u : Int) : ∀ k, betSum L s u k = colSum (fun a b => rbet L a b u) s k
  | 0 => rfl
  | k + 1 => by simp only [betSum, colSum, betSum_col L s u k]
theorem betSum_pos {L : List Dt} (hv : ∀ x ∈ L, x.ok) (s : Nat) (u : Int) : betSum L s u 6 = rpos L s u := by
  rw [betSum_col]
  exact col_fold s u L (fun _ _ => 0) hv
theorem betSum_bd {L : List Dt} (hv : ∀ x ∈ L, x.ok) (hl : L.length ≤ 20) (s : Nat) (u : Int) : ∀ k : Nat, k ≤ 6 → -(20000000000000 * (k : Int)) ≤ betSum L s u k ∧ betSum L s u k ≤ 20000000000000 * (k : Int)
  | 0, _ => by simp [betSum]
  | k + 1, hk => by
    have h1 := betSum_bd hv hl s u k (by omega)
    have h2 := rbet_bd k s u L hv 0
    have h3 : rbet L (k : Nat) s u = L.foldl (bstep (k : Nat) s u) 0 := rfl
    simp only [betSum]
    omega
/-- The sum of the first k states' positions. -/
def posSum (L : List Dt) (u : Int) : Nat → Int
  | 0 => 0
  | k + 1 => posSum L u k + rpos L (k : Nat) u
theorem rstep_sum (u : Int) (x : Dt) (hx : x.ok) (p0 p1 p2 p3 p4 p5 : Int) :
    rstep 0 u p0 x + rstep 1 u p1 x + rstep 2 u p2 x + rstep 3 u p3 x + rstep 4 u p4 x + rstep 5 u p5 x = p0 + p1 + p2 + p3 + p4 + p5 := by
  obtain ⟨h1, h2, h3, h4, _⟩ := hx.nums
  by_cases hu : (x.u == u) = true
  · have hd : x.d = 0 ∨ x.d = 1 ∨ x.d = 2 ∨ x.d = 3 ∨ x.d = 4 ∨ x.d = 5 := by omega
    have hc : x.c = 0 ∨ x.c = 1 ∨ x.c = 2 ∨ x.c = 3 ∨ x.c = 4 ∨ x.c = 5 := by omega
    simp only [rstep, hu, Bool.true_and]
    have key : ∀ v : Int, (v = 0 ∨ v = 1 ∨ v = 2 ∨ v = 3 ∨ v = 4 ∨ v = 5) →
        (if (v == 0) = true then x.a else 0) + (if (v == 1) = true then x.a else 0) + (if (v == 2) = true then x.a else 0) + (if (v == 3) = true then x.a else 0) + (if (v == 4) = true then x.a else 0) + (if (v == 5) = true then x.a else 0) = x.a := by
      intro v hv
      rcases hv with rfl | rfl | rfl | rfl | rfl | rfl <;> simp
    have k1 := key x.d hd
    have k2 := key x.c hc
    omega
  · have hu' : (x.u == u) = false := by simpa using hu
    simp [rstep, hu']
theorem fold_sum (u : Int) : ∀ (L : List Dt), (∀ x ∈ L, x.ok) → ∀ p0 p1 p2 p3 p4 p5 : Int,
    L.foldl (rstep 0 u) p0 + L.foldl (rstep 1 u) p1 + L.foldl (rstep 2 u) p2 + L.foldl (rstep 3 u) p3 + L.foldl (rstep 4 u) p4 + L.foldl (rstep 5 u) p5 = p0 + p1 + p2 + p3 + p4 + p5
  | [], _, _, _, _, _, _, _ => rfl
  | x :: L, h, p0, p1, p2, p3, p4, p5 => by
    simp only [List.foldl_cons]
    rw [fold_sum u L (fun y hy => h y (by simp [hy])), rstep_sum u x (h x (by simp))]
theorem posSum_zero {L : List Dt} (hv : ∀ x ∈ L, x.ok) (u : Int) : posSum L u 6 = 0 := by
  have h := fold_sum u L hv 0 0 0 0 0 0
  simp only [posSum, rpos]
  simp only [Int.ofNat_zero, Int.add_zero, Int.zero_add] at *
  exact h

/-- Every position of a ledger lies within the bound. -/
def Wide (L : List Dt) : Prop := ∀ (s : Nat) (u : Int), s < 6 → fitsB (rpos L s u) = true
theorem rpos_app (L : List Dt) (x : Dt) (s u : Int) : rpos (L ++ [x]) s u = rstep s u (rpos L s u) x := by simp [rpos, List.foldl_append]
theorem Wide.next {L : List Dt} (h : Wide L) (x : Dt) : Wide (nextOf L x) := by
  intro s u hs
  unfold nextOf
  split
  · split
    · rename_i hv hw
      obtain ⟨h1, h2, h3, h4, _⟩ := (show x.ok from hv).nums
      have hw2 : fitsB (rpos (L ++ [x]) x.d x.u) = true ∧ fitsB (rpos (L ++ [x]) x.c x.u) = true := by simpa [wideB] using hw
      by_cases hu : x.u = u
      · by_cases e1 : x.d = s
        · rw [← e1, ← hu]; exact hw2.1
        · by_cases e2 : x.c = s
          · rw [← e2, ← hu]; exact hw2.2
          · rw [rpos_app]
            have : rstep s u (rpos L s u) x = rpos L s u := by simp [rstep, e1, e2]
            rw [this]
            exact h s u hs
      · rw [rpos_app]
        have : rstep s u (rpos L s u) x = rpos L s u := by simp [rstep, hu]
        rw [this]
        exact h s u hs
    · exact h s u hs
  · exact h s u hs
theorem wide_held : ∀ (D L : List Dt), Wide L → Wide (heldOf L D)
  | [], _, h => h
  | x :: D, L, h => wide_held D (nextOf L x) (h.next x)
theorem wide_nil : Wide [] := fun _ _ _ => by simp [rpos, fitsB]
theorem posSum_bd {L : List Dt} (h : Wide L) (u : Int) : ∀ k : Nat, k ≤ 6 → -(1000000000000 * (k : Int)) ≤ posSum L u k ∧ posSum L u k ≤ 1000000000000 * (k : Int)
  | 0, _ => by simp [posSum]
  | k + 1, hk => by
    have h1 := posSum_bd h u k (by omega)
    have h2 := (fitsB_iff _).1 (h k u (by omega))
    simp only [posSum]
    omega
end Go.Proofs.Ytldkblkcbffelaa
