/- Check of the program. -/
import Derived.Test.YtghmmcdeejhcjaaGreatTrG
namespace Go.Proofs.YtghmmcdeejhcjaaGreat
open Go.RowKit

end Go.Proofs.YtghmmcdeejhcjaaGreat
