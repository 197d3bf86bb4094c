/- The position of a state in a matrix: the sum over a column. -/
import Derived.Test.YtldkblkcbffelaaDebtA
namespace Go.Proofs.Ytldkblkcbffelaa
open Go.RowKit

/-- The sum of the first k rows' entries in column s. -/
def colSum (M : Nat → Nat → Int) (s : Nat) : Nat → Int
  | 0 => 0
  | k + 1 => colSum M s k + M k s
def MBd (B : Int) (M : Nat → Nat → Int) : Prop := ∀ a b, -B ≤ M a b ∧ M a b ≤ B
theorem colSum_bd {M : Nat → Nat → Int} {B : Int} (h : MBd B M) (s : Nat) : ∀ k : Nat, -(B * k) ≤ colSum M s k ∧ colSum M s k ≤ B * k
  | 0 => by simp [colSum]
  | k + 1 => by
    have h1 := colSum_bd h s k
    have h2 := h k s
    have e : B * ((k + 1 : Nat) : Int) = B * (k : Int) + B := by rw [Int.natCast_add, Int.mul_add]; simp
    simp only [colSum]
    omega

set_option maxHeartbeats 400000 in
theorem position_any (b o s : Nat) (M : Nat → Nat → Int) (B : Int) (w : World) (hs : s < 6) (hB : MBd B M) (hB2 : B ≤ 1000000000000000) (hB0 : 0 ≤ B)
    (hc : ∀ a, a < 6 → w.cell? ⟨b, o + a * 6 + s, none⟩ = some (.int .i64 (M a s))) :
    Calls Try.prog 36 #[.pointer (some ⟨b, o, none⟩), .int .i64 s] w fun e w' => e = .returned (.int .i64 (colSum M s 6)) ∧ w = w' := by
  go_enter Try.func36, Try.ntmps36
  go_wp2
  go_loop [5, 7] (fun t i => ∃ k : Nat, k ≤ 6 ∧ i = .int .i64 k ∧ t = .int .i64 (colSum M s k)) (fun _ i => 6 - (intOf i).toNat)
  case atStart => exact ⟨0, by omega, rfl, rfl⟩
  case round =>
    obtain ⟨k, hk, rfl, rfl⟩ := hrel
    have hbd := colSum_bd hB s k
    have hb2 := hB k s
    have hkb : B * (k : Int) ≤ 1000000000000000 * 6 := by
      have h1 : B * (k : Int) ≤ B * 6 := Int.mul_le_mul_of_nonneg_left (by omega) hB0
      omega
    by_cases hlt : k < 6
    · have hcell := hc k hlt
      go_wp2
      go_round
      case rel => exact ⟨k + 1, by omega, by go_num, by simp [colSum]⟩
      case measure => simp [intOf]; omega
    · obtain rfl : k = 6 := by omega
      go_wp2
      go_ret
      exact ⟨rfl, rfl⟩
end Go.Proofs.Ytldkblkcbffelaa
