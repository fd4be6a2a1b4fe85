/- Contracts proved by hand: Settle, of nothing. -/
import Derived.Test.YtcpeakceigidpaaDoorVBs
import Derived.Lib.Walk
set_option linter.all false
namespace Go.Iw
open Go.Iv Go.Proofs Go.RowKit
theorem load_plain {P : Program} {w : World} {T : TypeId} {ad : Addr} {v : Value} (hT : (isAgg T).run P w = .ok false w) (h : w.cell? ad = some v) : (loadVar T ad).run P w = .ok v w := by
 simp only [loadVar, Sem.run_bind, hT, Result.andThen_ok, if_false, Bool.false_eq_true, run_load, h]
end Go.Iw
