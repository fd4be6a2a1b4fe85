/- EditStands: the plain law. -/
import Derived.Test.YtdlhckmdllfamaaCQ5
namespace Go.Iw
open Go.Iv
set_option linter.unusedVariables false
set_option linter.unusedSimpArgs false
/-- The two edits. -/
abbrev eA : Edit := ((1 : Int), (((1 : Int), ((1 : Int), ((0 : Int), ((0 : Int), (noStr, ((0 : Int), ((0 : Int), (noStr, (noStr, (noStr, ())))))))))), ((0 : Int), (((0 : Int), (noStr, ())), (((0 : Int), (noStr, ())), ())))))
abbrev eB : Edit := ((1 : Int), (((2 : Int), ((1 : Int), ((1 : Int), ((0 : Int), (noStr, ((0 : Int), ((0 : Int), (noStr, (noStr, (noStr, ())))))))))), ((0 : Int), (((0 : Int), (noStr, ())), (((0 : Int), (noStr, ())), ())))))
abbrev dA : Edit := ((2 : Int), (eA.2.1, ((0 : Int), (((0 : Int), (noStr, ())), (((0 : Int), (noStr, ())), ())))))
abbrev dB : Edit := ((2 : Int), (eB.2.1, ((0 : Int), (((0 : Int), (noStr, ())), (((0 : Int), (noStr, ())), ())))))
theorem ap1 : applyT [] [eB, eA] = ([], 0, 14) := by decide +kernel
theorem ap2 : applyT [] [eA, eB] = ([eA.2.1, eB.2.1], 0, 0) := by decide +kernel
theorem ap3 : (oneT [eA.2.1, eB.2.1] dA).2 = 14 := by decide +kernel
theorem ap4 : applyT [eA.2.1, eB.2.1] [dB, dA] = ([], 0, 0) := by decide +kernel
theorem editStands (by_ : Nat → Nat) (turn : Bool) (w0 : Wf by_ .bool turn) (K : Bool → Prop) (h : K true) : law12.EditStands turn K := by
  unfold law12.EditStands law12.EditStands.j25
  cases turn with
  | true =>
    rw [br_true]
    refine apply_law _ _ _ (by simp) (by simp) ?_
    rw [br_true]
    refine awake12_law _ ?_
    rw [show applyT [] [eB, eA] = _ from ap1]
    exact h
  | false =>
    rw [br_false]
    refine apply_law _ _ _ (by simp) (by simp) ?_
    rw [show applyT [] [eA, eB] = _ from ap2]
    rw [br_false]
    refine one_law _ _ _ (by simp) ?_
    refine apply_law _ _ _ (by simp) (by simp) ?_
    refine awake12_law _ ?_
    rw [show applyT [eA.2.1, eB.2.1] [dB, dA] = _ from ap4]
    rw [show (oneT [eA.2.1, eB.2.1] dA).2 = _ from ap3]
    exact h
end Go.Iw
