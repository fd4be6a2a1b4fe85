/- EditOne: the plain law. -/
import Derived.Test.YtdlhckmdllfamaaCQ5
namespace Go.Iw
open Go.Iv
set_option linter.unusedVariables false
set_option linter.unusedSimpArgs false
theorem editOne_j25 (K : Bool → Prop) (how : Int) (c : List Elem) (x : Edit) (hc : c.length ≤ 1000) (h : K true) : law12.EditOne.j25 K how c x := by
  unfold law12.EditOne.j25
  refine close_law _ _ _ _ (by omega) fun y _ => ?_
  refine ⟨⟨by omega, by omega⟩, one_law _ _ _ (by omega) (rone_law _ _ _ (by omega) ?_)⟩
  have := one_len c y
  rw [show ((oneT c y).2 == (oneT c y).2) = true from by simp, br_true]
  refine same_law _ _ _ (by omega) ?_
  rw [decide_eq_true rfl, br_true]
  refine same_law _ _ _ (by omega) ?_
  rw [decide_eq_true rfl]
  exact h
theorem editOne (by_ : Nat → Nat) (l : List Elem) (x : Edit) (how : Int) (raw : Bool) (w0 : Wf by_ (.sl 29 tElem) l) (w1 : Wf by_ tEdit x) (w2 : Wf by_ (.int .u8) how) (w3 : Wf by_ .bool raw) (K : Bool → Prop) (h : K true) : law12.EditOne l x how raw K := by
  unfold law12.EditOne law12.EditOne.j4
  refine awake12_law _ ?_
  rw [Bool.not_true, br_false]
  by_cases hl : l.length > 30
  · rw [decide_eq_true (by omega), br_true]
    exact awake12_law _ h
  · rw [decide_eq_false (by omega), br_false]
    refine rising12_law l _ _ (by omega) fun c hs hc _ => ?_
    cases raw with
    | true => rw [br_true]; exact editOne_j25 K how l x (by omega) h
    | false => rw [br_false]; exact editOne_j25 K how c x (by omega) h
end Go.Iw
