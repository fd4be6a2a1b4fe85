/- DiffLeads: the plain law. -/
import Derived.Test.YtdlhckmdllfamaaCQ15
namespace Go.Iw
open Go.Iv
set_option linter.unusedVariables false
set_option linter.unusedSimpArgs false
theorem diffLeads_j29 (K : Bool → Prop) (x y : List Elem) (hx : Kp x) (hy : Kp y) (h : K true) : law13.DiffLeads.j29 K x y := by
  unfold law13.DiffLeads.j29
  have lx := kp_len hx
  have ly := kp_len hy
  refine diff_law _ _ _ (by omega) (by omega) ?_
  have hl := diff_len x y
  rw [diff_ok hx hy] at hl ⊢
  have hl : (diffL x y).length ≤ y.length + 10 * x.length := hl
  have e1 : applyT x (diffL x y) = (y, 0, 0) := by unfold applyT; rw [if_pos (kp_ris hx)]; exact diff_leads hx hy
  have e2 : applyT y ((diffL x y).map invE).reverse = (x, 0, 0) := by unfold applyT; rw [if_pos (kp_ris hy)]; exact diff_back hx hy
  refine apply_law _ _ _ (by show (diffL x y).length ≤ _; omega) (by omega) ?_
  refine ⟨by show (diffL x y).length * 176 ≤ _; omega, apply_law _ _ _ (by simp; omega) (by omega) ?_⟩
  rw [e1, e2]
  rw [show (((diffL x y, (0 : Int)).2) == (0 : Int)) = true from rfl, br_true, br_true, br_true]
  refine same_law _ _ _ (by show y.length ≤ _; omega) ?_
  rw [decide_eq_true rfl, br_true]
  refine same_law _ _ _ (by show x.length ≤ _; omega) ?_
  rw [decide_eq_true rfl, br_true]
  refine same_law _ _ _ (by omega) ?_
  have : eqT .bool ((((List.length (diffL x y, (0 : Int)).1) : Nat) : Int) == (0 : Int)) (decide (x = y)) = true := by
    have hn := diff_nil hx hy
    by_cases e : x = y
    · have := hn.2 e
      rw [decide_eq_true e, this]; rfl
    · have h0 : ¬ diffL x y = [] := fun h => e (hn.1 h)
      rw [decide_eq_false e]
      have : ((((List.length (diffL x y)) : Nat) : Int) == (0 : Int)) = false := by simpa using h0
      rw [this]; rfl
  rw [this]; exact h
theorem diffLeads (by_ : Nat → Nat) (a b : List Act) (near : Bool) (w0 : Wf by_ (.sl 70 tAct) a) (w1 : Wf by_ (.sl 70 tAct) b) (w2 : Wf by_ .bool near) (K : Bool → Prop) (h : K true) : law13.DiffLeads a b near K := by
  have hb : ∀ x : Act, x ∈ b → ActOk x := fun x hx => (w1.1 x hx).2.1
  have gate : ∀ t : Bool, (t = false → a.length ≤ 24 ∧ b.length ≤ 24) → law13.DiffLeads.j4 K a b near t := fun t ht => by
    unfold law13.DiffLeads.j4
    cases t with
    | true => rw [br_true]; exact awake13_law _ h
    | false =>
      rw [br_false]
      obtain ⟨h1, h2⟩ := ht rfl
      refine make_law _ _ (by omega) fun x hx hxl => make_law _ _ (by omega) fun y hy hyl => ?_
      exact br_any (change_law _ _ _ (by omega) hb hx fun y' hy' => diffLeads_j29 K x y' hx hy' h) (diffLeads_j29 K x y hx hy h)
  unfold law13.DiffLeads
  refine awake13_law _ ?_
  rw [Bool.not_true, br_false]
  by_cases h1 : a.length > 24
  · rw [decide_eq_true (by omega), br_true]
    exact gate true fun h => by cases h
  rw [decide_eq_false (by omega), br_false]
  refine gate _ fun hb => ⟨by omega, ?_⟩
  have := of_decide_eq_false hb
  omega
end Go.Iw
