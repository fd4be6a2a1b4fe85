/- By hand: edit.Invert, chart.IDs. -/
import Derived.Test.YtdlhckmdllfamaaCNv3
import Derived.Test.YtdlhckmdllfamaaCId3
import Derived.Test.YtdlhckmdllfamaaCRw
