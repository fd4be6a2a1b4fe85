/- EditClasses: the plain law. -/
import Derived.Test.YtggdaoceljekiaaEPl
import Derived.Test.YtggdaoceljekiaaIvK
namespace Go.Iw
open Go.Iv
set_option linter.unusedVariables false
set_option linter.unusedSimpArgs false
@[simp] theorem br_true' (X Y : Prop) : br true X Y = X := rfl
@[simp] theorem br_false' (X Y : Prop) : br false X Y = Y := rfl
theorem awake12_law (K : Bool → Prop) (h : K true) : law12.awake K := by
  unfold law12.awake edit.Invert
  refine ⟨by simp, ?_⟩
  simp [invE, edit.Of, edit.Of.j33, h, ixN]
/-- The class of a field. -/
def ofL (f : Int) : Int := if f = 1 then 3 else if f = 2 then 4 else if f = 4 then 5 else if f = 5 then 5 else 1
theorem of_law (f : Int) (K : Int → Prop) (h : K (ofL f)) : edit.Of f K := by
  unfold edit.Of edit.Of.j33
  unfold ofL at h
  by_cases h1 : f = 1
  · simpa [h1] using h
  by_cases h2 : f = 2
  · simpa [h2] using h
  by_cases h4 : f = 4
  · simpa [h4] using h
  by_cases h5 : f = 5
  · simpa [h5] using h
  have e1 : (f == 1) = false := by simpa using h1
  have e2 : (f == 2) = false := by simpa using h2
  have e4 : (f == 4) = false := by simpa using h4
  have e5 : (f == 5) = false := by simpa using h5
  simpa [e1, e2, e4, e5, h1, h2, h4, h5] using h
theorem classes_j65 (K0 : Bool → Prop) (f k : Int) (x : Edit) (hf : x.2.2.1 = f) (hk : k = if x.1 = 1 then 6 else if x.1 = 2 then 2 else ofL f) (h : K0 true) : law12.EditClasses.j65 K0 f (ofL f) k x := by
  unfold law12.EditClasses.j65
  refine awake12_law _ ?_
  rw [br_true']
  refine of_law _ _ ?_
  rw [show (ofL f == ofL f) = true from by simp, br_true']
  unfold edit.Class
  subst hk
  by_cases h1 : x.1 = 1
  · simpa [h1] using h
  by_cases h2 : x.1 = 2
  · simpa [h2] using h
  have e1 : (x.1 == 1) = false := by simpa using h1
  have e2 : (x.1 == 2) = false := by simpa using h2
  rw [e1, e2, br_false', br_false', hf]
  refine of_law _ _ ?_
  simpa [h1, h2] using h
theorem classes_j43 (K0 : Bool → Prop) (f : Int) (x : Edit) (h : K0 true) : law12.EditClasses.j43 K0 f (ofL f) x := by
  unfold law12.EditClasses.j43 law12.EditClasses.j57
  by_cases h1 : x.1 = 1
  · have h2 : ¬ x.1 = 2 := by omega
    have e1 : (x.1 == 1) = true := by simpa using h1
    have e2 : (x.1 == 2) = false := by simpa using h2
    rw [e1, br_true']
    simp only [e2, br_false']
    exact classes_j65 K0 f 6 _ rfl (by simp [h1]) h
  · have e1 : (x.1 == 1) = false := by simpa using h1
    rw [e1, br_false']
    by_cases h2 : x.1 = 2
    · have e2 : (x.1 == 2) = true := by simpa using h2
      simp only [e2, br_true']
      exact classes_j65 K0 f 2 _ rfl (by simp [h1, h2]) h
    · have e2 : (x.1 == 2) = false := by simpa using h2
      simp only [e2, br_false']
      exact classes_j65 K0 f (ofL f) _ rfl (by simp [h1, h2]) h
theorem editClasses (by_ : Nat → Nat) (x : Edit) (f : Int) (w0 : Wf by_ tEdit x) (w1 : Wf by_ (.int .i64) f) (K : Bool → Prop) (h : K true) : law12.EditClasses x f K := by
  have g := classes_j43 K f x h
  unfold law12.EditClasses law12.EditClasses.j37
  unfold ofL at g
  by_cases h1 : f = 1
  · simpa [h1] using g
  by_cases h2 : f = 2
  · simpa [h2] using g
  by_cases h4 : f = 4
  · simpa [h4] using g
  by_cases h5 : f = 5
  · simpa [h5] using g
  have e1 : (f == 1) = false := by simpa using h1
  have e2 : (f == 2) = false := by simpa using h2
  have e4 : (f == 4) = false := by simpa using h4
  have e5 : (f == 5) = false := by simpa using h5
  simpa [e1, e2, e4, e5, h1, h2, h4, h5] using g
end Go.Iw
