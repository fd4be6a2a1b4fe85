/- Rows of keys that are sorted. -/
import Derived.Test.YtcpeakceigidpaaDoorVHc
import Derived.Test.YtcpeakceigidpaaDoorVQ1
set_option linter.all false
namespace Go.Iw
open Go.Iv Go.Proofs Go.RowKit
end Go.Iw
