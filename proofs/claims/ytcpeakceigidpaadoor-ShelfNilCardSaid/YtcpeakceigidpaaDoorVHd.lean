/- Contracts proved by hand, together. -/
import Derived.Test.YtcpeakceigidpaaDoorVHn
import Derived.Test.YtcpeakceigidpaaDoorVSh
set_option linter.all false
namespace Go.Iw
open Go.Iv Go.Proofs Go.RowKit Go.Shelf
end Go.Iw
