/- Plain laws: an element's fields. -/
import Derived.Test.YtggdaoceljekiaaLa
namespace Go.Iw
open Go.Iv
set_option linter.unusedVariables false
set_option linter.unusedSimpArgs false

def valL (e : Elem) (k : Int) : Val :=
  if k = 0 then (e.2.1, noStr, ()) else if k = 1 then (e.2.2.1, noStr, ()) else if k = 2 then (e.2.2.2.1, noStr, ()) else if k = 3 then (0, e.2.2.2.2.1, ()) else
  if k = 4 then (e.2.2.2.2.2.1, noStr, ()) else if k = 5 then (e.2.2.2.2.2.2.1, noStr, ()) else if k = 6 then (0, e.2.2.2.2.2.2.2.1, ()) else
  if k = 7 then (0, e.2.2.2.2.2.2.2.2.1, ()) else if k = 8 then (0, e.2.2.2.2.2.2.2.2.2.1, ()) else (0, noStr, ())
def withL (e : Elem) (k : Int) (v : Val) : Elem :=
  if k = 0 then (e.1, IntKind.wrap .u8 v.1, e.2.2) else if k = 1 then (e.1, e.2.1, v.1, e.2.2.2) else if k = 2 then (e.1, e.2.1, e.2.2.1, v.1, e.2.2.2.2) else
  if k = 3 then (e.1, e.2.1, e.2.2.1, e.2.2.2.1, v.2.1, e.2.2.2.2.2) else if k = 4 then (e.1, e.2.1, e.2.2.1, e.2.2.2.1, e.2.2.2.2.1, v.1, e.2.2.2.2.2.2) else
  if k = 5 then (e.1, e.2.1, e.2.2.1, e.2.2.2.1, e.2.2.2.2.1, e.2.2.2.2.2.1, v.1, e.2.2.2.2.2.2.2) else
  if k = 6 then (e.1, e.2.1, e.2.2.1, e.2.2.2.1, e.2.2.2.2.1, e.2.2.2.2.2.1, e.2.2.2.2.2.2.1, v.2.1, e.2.2.2.2.2.2.2.2) else
  if k = 7 then (e.1, e.2.1, e.2.2.1, e.2.2.2.1, e.2.2.2.2.1, e.2.2.2.2.2.1, e.2.2.2.2.2.2.1, e.2.2.2.2.2.2.2.1, v.2.1, e.2.2.2.2.2.2.2.2.2) else
  if k = 8 then (e.1, e.2.1, e.2.2.1, e.2.2.2.1, e.2.2.2.2.1, e.2.2.2.2.2.1, e.2.2.2.2.2.2.1, e.2.2.2.2.2.2.2.1, e.2.2.2.2.2.2.2.2.1, v.2.1, e.2.2.2.2.2.2.2.2.2.2) else e

theorem nine (k : Int) : k = 0 ∨ k = 1 ∨ k = 2 ∨ k = 3 ∨ k = 4 ∨ k = 5 ∨ k = 6 ∨ k = 7 ∨ k = 8 ∨ (k < 0 ∨ 8 < k) := by omega

/-- A byte. -/
def Byt (e : Elem) : Prop := 0 ≤ e.2.1 ∧ e.2.1 ≤ 255

theorem Get_law (e : Elem) (k : Int) (K : Val → Prop) (hb : Byt e) (h : K (valL e k)) : chart.Get e k K := by
  have e1 : IntKind.wrap .i64 e.2.1 = e.2.1 := wrap_small (by have := hb.1; omega) (by have := hb.2; omega)
  rcases nine k with rfl | rfl | rfl | rfl | rfl | rfl | rfl | rfl | rfl | hk
  all_goals try (simp [valL] at h; simp [chart.Get, e1, h]; done)
  have n0 : ¬ k = 0 := by omega
  have n1 : ¬ k = 1 := by omega
  have n2 : ¬ k = 2 := by omega
  have n3 : ¬ k = 3 := by omega
  have n4 : ¬ k = 4 := by omega
  have n5 : ¬ k = 5 := by omega
  have n6 : ¬ k = 6 := by omega
  have n7 : ¬ k = 7 := by omega
  have n8 : ¬ k = 8 := by omega
  simp only [valL, n0, n1, n2, n3, n4, n5, n6, n7, n8, if_false] at h
  have b : ∀ i : Int, k ≠ i → (k == i) = false := fun i h => by simpa using h
  simp only [chart.Get, b 0 n0, b 1 n1, b 2 n2, b 3 n3, b 4 n4, b 5 n5, b 6 n6, b 7 n7, b 8 n8, br_false]
  exact h

theorem Value_law (e : Elem) (k : Int) (K : Val → Prop) (hb : Byt e) (h : K (valL e k)) : r09.Value e k K := by
  have e1 : IntKind.wrap .i64 e.2.1 = e.2.1 := wrap_small (by have := hb.1; omega) (by have := hb.2; omega)
  rcases nine k with rfl | rfl | rfl | rfl | rfl | rfl | rfl | rfl | rfl | hk
  all_goals try (simp [valL] at h; simp [r09.Value, r09.Value.j12, e1, h]; done)
  have n0 : ¬ k = 0 := by omega
  have n1 : ¬ k = 1 := by omega
  have n2 : ¬ k = 2 := by omega
  have n3 : ¬ k = 3 := by omega
  have n4 : ¬ k = 4 := by omega
  have n5 : ¬ k = 5 := by omega
  have n6 : ¬ k = 6 := by omega
  have n7 : ¬ k = 7 := by omega
  have n8 : ¬ k = 8 := by omega
  simp only [valL, n0, n1, n2, n3, n4, n5, n6, n7, n8, if_false] at h
  unfold r09.Value
  rcases hk with hk | hk
  · simp only [decide_eq_true hk, br_true]; exact h
  · have : ¬ k < 0 := by omega
    have h8 : k > 8 := hk
    simp only [decide_eq_false this, br_false, decide_eq_true h8, br_true]; exact h
theorem With_law (e : Elem) (k : Int) (v : Val) (K : Elem → Prop) (h : K (withL e k v)) : chart.With e k v K := by
  rcases nine k with rfl | rfl | rfl | rfl | rfl | rfl | rfl | rfl | rfl | hk
  all_goals try (simp [withL] at h; simp [chart.With, chart.With.j35, h]; done)
  have n0 : ¬ k = 0 := by omega
  have n1 : ¬ k = 1 := by omega
  have n2 : ¬ k = 2 := by omega
  have n3 : ¬ k = 3 := by omega
  have n4 : ¬ k = 4 := by omega
  have n5 : ¬ k = 5 := by omega
  have n6 : ¬ k = 6 := by omega
  have n7 : ¬ k = 7 := by omega
  have n8 : ¬ k = 8 := by omega
  simp only [withL, n0, n1, n2, n3, n4, n5, n6, n7, n8, if_false] at h
  have b : ∀ i : Int, k ≠ i → (k == i) = false := fun i h => by simpa using h
  simp only [chart.With, chart.With.j35, b 0 n0, b 1 n1, b 2 n2, b 3 n3, b 4 n4, b 5 n5, b 6 n6, b 7 n7, b 8 n8, br_false]
  exact h

theorem eqT_val (a : Val) : eqT tVal a a = true := by simp [eqT, ba_beq]

theorem valL_other (e : Elem) (f k : Int) (v : Val) (h : k ≠ f) : valL (withL e f v) k = valL e k := by
  rcases nine f with rfl | rfl | rfl | rfl | rfl | rfl | rfl | rfl | rfl | hf
  all_goals first
    | (rcases nine k with rfl | rfl | rfl | rfl | rfl | rfl | rfl | rfl | rfl | hk <;> first | exact (h rfl).elim | (simp [valL, withL]; done) | skip
       have n0 : ¬ k = 0 := by omega
       have n1 : ¬ k = 1 := by omega
       have n2 : ¬ k = 2 := by omega
       have n3 : ¬ k = 3 := by omega
       have n4 : ¬ k = 4 := by omega
       have n5 : ¬ k = 5 := by omega
       have n6 : ¬ k = 6 := by omega
       have n7 : ¬ k = 7 := by omega
       have n8 : ¬ k = 8 := by omega
       simp only [valL, n0, n1, n2, n3, n4, n5, n6, n7, n8, if_false]
       done)
    | (have n0 : ¬ f = 0 := by omega
       have n1 : ¬ f = 1 := by omega
       have n2 : ¬ f = 2 := by omega
       have n3 : ¬ f = 3 := by omega
       have n4 : ¬ f = 4 := by omega
       have n5 : ¬ f = 5 := by omega
       have n6 : ¬ f = 6 := by omega
       have n7 : ¬ f = 7 := by omega
       have n8 : ¬ f = 8 := by omega
       simp only [withL, n0, n1, n2, n3, n4, n5, n6, n7, n8, if_false])

theorem Byt_with (e : Elem) (f : Int) (v : Val) (h : Byt e) : Byt (withL e f v) := by
  have hw : 0 ≤ IntKind.wrap .u8 v.1 ∧ IntKind.wrap .u8 v.1 ≤ 255 := by rw [IntKind.wrap_u8]; omega
  unfold withL
  repeat' split
  all_goals first | exact hw | exact h

/-- What a field that is set reads. -/
def wantL (f : Int) (v : Val) : Val := if f = 0 then (IntKind.wrap .u8 v.1, noStr, ()) else if f = 3 ∨ 5 < f then (0, v.2.1, ()) else (v.1, noStr, ())
theorem valL_same (e : Elem) (f : Int) (v : Val) (h : 0 ≤ f ∧ f < 9) : valL (withL e f v) f = wantL f v := by
  rcases nine f with rfl | rfl | rfl | rfl | rfl | rfl | rfl | rfl | rfl | hf
  all_goals first | (simp [valL, withL, wantL]; done) | omega
theorem valL_off (e : Elem) (f : Int) (v : Val) (h : ¬ (0 ≤ f ∧ f < 9)) : withL e f v = e := by
  have n0 : ¬ f = 0 := by omega
  have n1 : ¬ f = 1 := by omega
  have n2 : ¬ f = 2 := by omega
  have n3 : ¬ f = 3 := by omega
  have n4 : ¬ f = 4 := by omega
  have n5 : ¬ f = 5 := by omega
  have n6 : ¬ f = 6 := by omega
  have n7 : ¬ f = 7 := by omega
  have n8 : ¬ f = 8 := by omega
  simp only [withL, n0, n1, n2, n3, n4, n5, n6, n7, n8, if_false]
theorem with_id (e : Elem) (f : Int) (v : Val) : (withL e f v).1 = e.1 := by
  unfold withL
  repeat' split
  all_goals rfl
end Go.Iw
