/- Steps of a walk: an element's address, a load, a store. -/
import Derived.RangeFuncBox
import Derived.RangeFuncLeaves
import Derived.Shelf.Abstract
import Derived.WalkKit
import Derived.OwnWalkIn
import Derived.TacticsInMore
import Derived.LoopNIn
import Derived.LoopIn
import Derived.Maps.AppendAt
import Derived.Sort.CutIn
import Derived.RangeFuncNested
import Derived.Deep.WholeRow
import Derived.Test.YtdniiaomhojlhaaIvD
namespace Go.Iw
open Go.Iv Go.Proofs Go.RowKit Go.Shelf
set_option linter.unusedVariables false
set_option linter.unusedSimpArgs false

attribute [local go_sem] Oper.semAt_some
/-- AN ADDRESS OF AN ELEMENT, one step of a walk. -/
theorem in_idx {F : Fence} {n : Nat} {P : Program} {w : World} {ops : Array Oper} {rest : List Oper} {o : Oper} {a : Go.Act} {Q : Exit → Go.Act → World → Prop}
    (hg : o.guard = none) {T : TypeId} {x i : Operand} (hop : o.op = .indexAddr T x i) {e : TypeId} (hT : P.underlying T = some (.slice e)) {sz : Nat} (hs : (sizeOf e).run P w = .ok sz w)
    {ad : Addr} {len cap : Nat} (hx : a.eval x = .slice (some ad) len cap) {k : Nat} (hi : a.eval i = .int .i64 k) (hk : k < len)
    (hK : wpListIn F n P ops Q rest (a.put o.dst (.pointer (some (ad.add (k * sz))))) w) : wpListIn F n P ops Q (o :: rest) a w := by
  refine wpListIn_plain hg fun K hK' => ?_
  unfold Oper.wpIn
  refine ⟨?_, ?_⟩
  · simp [Oper.about, hop, Sem.run_pure]
  · rw [Oper.semAt_plain F _ _ (by rw [hop]; intro c hc'; cases hc')]
    have h0 : (0 : Int) ≤ (k : Int) := by omega
    have h1 : (k : Int) < (len : Int) := by omega
    simp [execOp, hop, hx, hi, Instr.indexAt, asIntOf, run_underlying hT, h0, h1, hk, hs, Result.andThen]
    exact hK' _ _ hK

/-- A LOAD, one step of a walk. -/
theorem in_load {F : Fence} {n : Nat} {P : Program} {w : World} {ops : Array Oper} {rest : List Oper} {o : Oper} {a : Go.Act} {Q : Exit → Go.Act → World → Prop}
    (hg : o.guard = none) {T : TypeId} {x : Operand} (hop : o.op = .load T x) {ad : Addr} (hx : a.eval x = .pointer (some ad)) {v : Value} (hl : (loadVar T ad).run P w = .ok v w)
    (hK : wpListIn F n P ops Q rest (a.put o.dst v) w) : wpListIn F n P ops Q (o :: rest) a w := by
  refine wpListIn_plain hg fun K hK' => ?_
  unfold Oper.wpIn
  refine ⟨?_, ?_⟩
  · simp [Oper.about, hop, Sem.run_pure]
  · rw [Oper.semAt_plain F _ _ (by rw [hop]; intro c hc'; cases hc')]
    simp [execOp, hop, hx, Instr.loadAt, Instr.sureAddr, hl, Result.andThen]
    exact hK' _ _ hK

/-- A STORE, one step of a walk. -/
theorem in_store {F : Fence} {n : Nat} {P : Program} {w : World} {ops : Array Oper} {rest : List Oper} {o : Oper} {a : Go.Act} {Q : Exit → Go.Act → World → Prop}
    (hg : o.guard = none) {T : TypeId} {x y : Operand} (hop : o.op = .store T x y) {ad : Addr} (hx : a.eval x = .pointer (some ad)) {v : Value} (hy : a.eval y = v) {w' : World} (hl : (storeVar T ad v).run P w = .ok () w')
    (hK : wpListIn F n P ops Q rest (a.put o.dst undef) w') : wpListIn F n P ops Q (o :: rest) a w := by
  refine wpListIn_plain hg fun K hK' => ?_
  unfold Oper.wpIn
  refine ⟨?_, ?_⟩
  · simp [Oper.about, hop, Sem.run_pure]
  · rw [Oper.semAt_plain F _ _ (by rw [hop]; intro c hc'; cases hc')]
    simp [execOp, hop, hx, hy, Instr.storeAt, Instr.sureAddr, hl, Result.andThen]
    exact hK' _ _ hK

end Go.Iw
