/- Check of the reference. -/
import Derived.Test.YtghmmcdeejhcjaaGreatTrH
import Derived.Test.YtghmmcdeejhcjaaGreatSpRefA
import Derived.Test.YtghmmcdeejhcjaaGreatSpComb
namespace Go.Proofs.YtghmmcdeejhcjaaGreat
open Go.RowKit

theorem vday_to {n : Int} {v : Bool} (h : isD n = v) (w : World) : Calls Tryz.prog 14 #[.int .i64 n] w fun e w' => e = .returned (.bool v) ∧ w = w' := by
  rw [← h]
  exact vday_any n w

end Go.Proofs.YtghmmcdeejhcjaaGreat
