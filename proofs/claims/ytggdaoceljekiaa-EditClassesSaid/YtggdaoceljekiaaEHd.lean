/- By hand: edit.Invert. -/
import Derived.Test.YtggdaoceljekiaaENv3
import Derived.Test.YtggdaoceljekiaaERw
