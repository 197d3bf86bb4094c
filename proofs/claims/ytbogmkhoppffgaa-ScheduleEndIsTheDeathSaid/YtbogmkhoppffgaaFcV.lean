/- schedule.End outside the persons: -1. -/
import Derived.Test.YtbogmkhoppffgaaFcU
namespace Go.Proofs.Ytbogmkhoppffgaa
open Go.RowKit

set_option maxRecDepth 100000 in
set_option maxHeartbeats 4000000 in
theorem end_low {A : Option Addr} {n c : Nat} (p : Int) (hp : p < 1) (w : World) : Calls Try.prog 12 #[.slice A n c, .int .i64 p] w fun e w' => e = .returned (.int .i64 (-1)) ∧ w = w' := by
  go_enter Try.func12, Try.ntmps12
  go_wp2_with fail
  go_ret
  exact ⟨rfl, rfl⟩
set_option maxRecDepth 100000 in
set_option maxHeartbeats 4000000 in
theorem end_high {A : Option Addr} {n c : Nat} (p : Int) (hp : 99 < p) (w : World) : Calls Try.prog 12 #[.slice A n c, .int .i64 p] w fun e w' => e = .returned (.int .i64 (-1)) ∧ w = w' := by
  have h1 : ¬ p < 1 := by omega
  go_enter Try.func12, Try.ntmps12
  go_wp2_with fail
  go_ret
  exact ⟨rfl, rfl⟩
end Go.Proofs.Ytbogmkhoppffgaa
