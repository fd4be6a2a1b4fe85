/- Contracts proved by hand: Shelf.Keys. -/
import Derived.Test.YtcpeakceigidpaaDoorVHt
set_option linter.all false
namespace Go.Iw
open Go.Iv Go.Proofs Go.RowKit Go.Shelf
attribute [local go_sem] Oper.semAt_some
end Go.Iw
