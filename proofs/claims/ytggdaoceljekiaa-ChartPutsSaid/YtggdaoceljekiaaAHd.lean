/- Nothing by hand. -/
import Derived.Test.YtggdaoceljekiaaABs
import Derived.Test.YtggdaoceljekiaaARw
