/- By hand: chart.IDs; no row functions of the library. -/
import Derived.Test.YtdniiaomhojlhaaDId3
namespace Go.Iw
open Go.Iv Go.Proofs
def rowL : List (Nat × RowF × Nat) := []
theorem rows : AllC (fun p => RowOK Try.prog p.1 p.2.1 p.2.2) rowL := trivial
end Go.Iw
