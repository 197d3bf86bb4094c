/- The hand's length. -/
import Derived.Test.YtbogmkhoppffgaaFcD
namespace Go.Proofs.Ytbogmkhoppffgaa
open Go.RowKit

theorem mod_to {n m z : Int} (h1 : 1 ≤ m) (h2 : m ≤ 4611686018427387904) (hz : n % m = z) (w : World) : Calls Try.prog 6 #[.int .i64 n, .int .i64 m] w fun e w' => e = .returned (.int .i64 z) ∧ w = w' := by
  subst hz
  exact mod_any n m w h1 h2
set_option maxRecDepth 100000 in
set_option maxHeartbeats 4000000 in
theorem hlen_any (x : Int) (w : World) : Calls Try.prog 29 #[.int .i64 x] w fun e w' => (∃ l : Int, e = .returned (.int .i64 l) ∧ 1 ≤ l ∧ l ≤ 9000) ∧ w = w' := by
  obtain ⟨z, hz⟩ : ∃ z, x % 4 = z := ⟨_, rfl⟩
  have hb := mod_bd x 4 (by omega)
  rw [hz] at hb
  have HZ := Lib.hid hz
  clear hz
  have hc : z = 0 ∨ z = 1 ∨ z = 2 ∨ z = 3 := by omega
  rcases hc with rfl | rfl | rfl | rfl
  all_goals
    go_enter Try.func29, Try.ntmps29
    go_wp2_with fail
    refine (mod_to (by omega) (by omega) HZ.out _).mono ?_
    rintro e w1 ⟨rfl, rfl⟩
    go_wp2_with fail
    refine (mod_any _ _ _ (by omega) (by omega)).mono ?_
    rintro e w1 ⟨rfl, rfl⟩
    generalize hm : (_ : Int) % (_ : Int) = l
    have hl : 0 ≤ l ∧ l < 9000 := by omega
    clear hm
    have hw : IntKind.i64.wrap (1 + l) = 1 + l := IntWalk.i64_in _ (by omega)
    go_wp2_with fail
    go_ret
    exact ⟨⟨1 + l, rfl, by omega, by omega⟩, rfl⟩
end Go.Proofs.Ytbogmkhoppffgaa
