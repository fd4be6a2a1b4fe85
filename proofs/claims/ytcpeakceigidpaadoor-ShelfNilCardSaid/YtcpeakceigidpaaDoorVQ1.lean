/- Plain laws: how keys compare. -/
import Derived.Test.YtcpeakceigidpaaDoorVQs
set_option linter.all false
namespace Go.Iw
open Go.Iv
end Go.Iw
