/- The program's functions do what the plain ones do. -/
import Derived.Test.YtecohedcbnfibaaDoorYSo5
namespace Go.Iw
open Go.Iv Go.Proofs
attribute [local irreducible] fnA fnAS awp
set_option maxHeartbeats 4000000
set_option maxRecDepth 100000
set_option linter.unusedVariables false
end Go.Iw
