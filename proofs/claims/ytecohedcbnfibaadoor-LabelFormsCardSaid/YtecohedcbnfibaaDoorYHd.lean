/- Contracts proved by hand, together. -/
import Derived.Test.YtecohedcbnfibaaDoorYRt
