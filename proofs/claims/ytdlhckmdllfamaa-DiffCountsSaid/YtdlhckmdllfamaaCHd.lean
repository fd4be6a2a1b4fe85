/- By hand: edit.Invert. -/
import Derived.Test.YtdlhckmdllfamaaCNv3
import Derived.Test.YtdlhckmdllfamaaCRw
