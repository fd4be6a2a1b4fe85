/- ChartFields: the plain law. -/
import Derived.Test.YtggdaoceljekiaaLb
namespace Go.Iw
open Go.Iv
set_option linter.unusedVariables false
set_option linter.unusedSimpArgs false

def FitB (f : Int) (v : Val) : Bool :=
  if f = 0 then (ByteArray.toList v.2.1 == ByteArray.toList noStr) && (decide (v.1 ≥ 0) && decide (v.1 < 256)) else
  if f = 1 ∨ f = 2 ∨ f = 4 ∨ f = 5 then ByteArray.toList v.2.1 == ByteArray.toList noStr else
  if f = 3 ∨ f = 6 ∨ f = 7 ∨ f = 8 then v.1 == 0 else false

theorem Fits_law (f : Int) (v : Val) (K : Bool → Prop) (h : K (FitB f v)) : chart.Fits f v K := by
  rcases nine f with rfl | rfl | rfl | rfl | rfl | rfl | rfl | rfl | rfl | hf
  · simp only [FitB, if_true] at h
    simp only [chart.Fits]
    simp only [show ((0 : Int) == 0) = true from rfl, br_true]
    revert h
    generalize (ByteArray.toList v.2.1 == ByteArray.toList noStr) = b1
    generalize decide (v.1 ≥ 0) = b2
    generalize decide (v.1 < 256) = b3
    cases b1 <;> cases b2 <;> cases b3 <;> exact fun h => h
  all_goals try (simp [FitB] at h; simp [chart.Fits, chart.Fits.j215, chart.Fits.j135, h]; done)
  have n0 : ¬ f = 0 := by omega
  have n1 : ¬ f = 1 := by omega
  have n2 : ¬ f = 2 := by omega
  have n3 : ¬ f = 3 := by omega
  have n4 : ¬ f = 4 := by omega
  have n5 : ¬ f = 5 := by omega
  have n6 : ¬ f = 6 := by omega
  have n7 : ¬ f = 7 := by omega
  have n8 : ¬ f = 8 := by omega
  have b : ∀ i : Int, f ≠ i → (f == i) = false := fun i h => by simpa using h
  simp only [FitB, n0, n1, n2, n3, n4, n5, n6, n7, n8, if_false, or_self] at h
  simp only [chart.Fits, chart.Fits.j215, chart.Fits.j135, b 0 n0, b 1 n1, b 2 n2, b 3 n3, b 4 n4, b 5 n5, b 6 n6, b 7 n7, b 8 n8, br_false]
  exact h

theorem j32_law (K0 : Bool → Prop) (f : Int) (fits : Bool) (e : Elem) (v : Val) (x : Elem) (hx : x.1 = e.1) (hf : fits = FitB f v) (h : K0 true) : law09.ChartFields.j32 K0 f fits e v x := by
  unfold law09.ChartFields.j32
  refine awake_true _ ?_
  rw [br_true]
  refine Fits_law _ _ _ ?_
  subst hf
  have e1 : eqT .bool (FitB f v) (FitB f v) = true := by show (FitB f v == FitB f v) = true; simp
  have e2 : (x.1 == e.1) = true := by rw [hx]; simp
  rw [e1, br_true, e2, br_true]
  exact h

theorem last_law (K : Bool → Prop) (f : Int) (e : Elem) (v : Val) (x : Elem) (hx : x.1 = e.1) (h : K true) :
    br (f == 3) (law09.ChartFields.j30 (fun t => K t) f true e v x) (br (decide (f > 5)) (law09.ChartFields.j30 (fun t => K t) f (decide (f < 9)) e v x) (law09.ChartFields.j30 (fun t => K t) f false e v x)) := by
  have fin : ∀ b, b = FitB f v → law09.ChartFields.j32 (fun t => K t) f b e v x := fun b hb => j32_law _ f b e v x hx hb h
  have fb : ∀ (i : Int), f ≠ i → (f == i) = false := fun i h => by simpa using h
  have g1 : ∀ (c : Bool), c = true ∨ c = false := fun c => by cases c <;> simp
  by_cases t : f = 3 ∨ f = 6 ∨ f = 7 ∨ f = 8
  · have hF : FitB f v = (v.1 == 0) := by rcases t with rfl | rfl | rfl | rfl <;> simp [FitB]
    rw [hF] at fin
    have c0 : decide (f ≥ 0) = true := by simp; omega
    have c9 : decide (f < 9) = true := by simp; omega
    have main : law09.ChartFields.j30 (fun t => K t) f true e v x := by
      unfold law09.ChartFields.j30
      rw [c0, br_true, c9, br_true, br_true]
      rcases g1 (v.1 == 0) with h1 | h1
      · rw [h1, br_true]; exact fin _ h1.symm
      · rw [h1, br_false, Bool.not_true, br_false]; exact fin _ h1.symm
    by_cases h3 : f = 3
    · have : (f == 3) = true := by simpa using h3
      rw [this, br_true]; exact main
    · have h5 : decide (f > 5) = true := by simp; omega
      rw [fb 3 h3, br_false, h5, br_true, c9]; exact main
  · have h3 : f ≠ 3 := by omega
    have main : law09.ChartFields.j30 (fun t => K t) f false e v x := by
      unfold law09.ChartFields.j30
      by_cases r : 0 ≤ f ∧ f < 9
      · have c0 : decide (f ≥ 0) = true := by simp; omega
        have c9 : decide (f < 9) = true := by simp; omega
        rw [c0, br_true, c9, br_true, br_false, Bool.not_false, br_true]
        by_cases h0 : f = 0
        · subst h0
          have hF : FitB 0 v = ((ByteArray.toList v.2.1 == ByteArray.toList noStr) && (decide (v.1 ≥ 0) && decide (v.1 < 256))) := by simp [FitB]
          rw [hF] at fin
          rcases g1 (ByteArray.toList v.2.1 == ByteArray.toList noStr) with h1 | h1
          · rw [h1] at fin ⊢
            rw [br_true, show decide ((0 : Int) > 0) = false from rfl, br_false]
            rcases g1 (decide (v.1 ≥ 0)) with h2 | h2
            · rw [h2] at fin ⊢
              rw [br_true]; exact fin _ (by simp)
            · rw [h2] at fin ⊢
              rw [br_false]; exact fin _ (by simp)
          · rw [h1] at fin ⊢
            rw [br_false]; exact fin _ (by simp)
        · have hF : FitB f v = (ByteArray.toList v.2.1 == ByteArray.toList noStr) := by
            have : f = 1 ∨ f = 2 ∨ f = 4 ∨ f = 5 := by omega
            rcases this with rfl | rfl | rfl | rfl <;> simp [FitB]
          rw [hF] at fin
          have c1 : decide (f > 0) = true := by simp; omega
          rcases g1 (ByteArray.toList v.2.1 == ByteArray.toList noStr) with h1 | h1
          · rw [h1, br_true, c1, br_true]; exact fin _ h1.symm
          · rw [h1, br_false]; exact fin _ h1.symm
      · have hF : FitB f v = false := by
          have n0 : ¬ f = 0 := by omega
          have n1 : ¬ (f = 1 ∨ f = 2 ∨ f = 4 ∨ f = 5) := by omega
          simp only [FitB, n0, n1, t, if_false]
        rw [hF] at fin
        by_cases c0 : f ≥ 0
        · have c9 : decide (f < 9) = false := by simp; omega
          rw [decide_eq_true c0, br_true, c9, br_false]; exact fin _ rfl
        · rw [decide_eq_false c0, br_false]; exact fin _ rfl
    rw [fb 3 h3, br_false]
    by_cases h5 : f > 5
    · have h9 : decide (f < 9) = false := by simp; omega
      rw [decide_eq_true h5, br_true, h9]; exact main
    · rw [decide_eq_false h5, br_false]; exact main

section
variable (K0 : Bool → Prop) (K1 : Int → Int → Elem → Val → Elem → Prop)

theorem j99_law (f k : Int) (e : Elem) (v : Val) (x : Elem) (w : Val) (hk : -1 ≤ k ∧ k < 10) (he : Byt e) (hx : Byt x) (hw : valL x k = w) (h : K1 f (k + 1) e v x) : law09.ChartFields.j99 K0 K1 f k e v x w := by
  unfold law09.ChartFields.j99
  refine Get_law _ _ _ hx ?_
  rw [hw, eqT_val, Bool.not_true, br_false]
  refine Get_law _ _ _ he (Value_law _ _ _ he ?_)
  rw [eqT_val, Bool.not_true]
  unfold law09.ChartFields.j26 law09.ChartFields.j231
  rw [br_false, wrap_small (by omega) (by omega)]
  exact h

theorem step_law (f k : Int) (e : Elem) (v : Val) (n : Nat) (K1 : Int → Elem → Val → Elem → Prop) (hk : -1 ≤ k ∧ k < 10) (he : Byt e) (h : law09.ChartFields.l3 K0 K1 n f (k + 1) e v (withL e f v)) : law09.ChartFields.l3 K0 K1 (n + 1) f k e v (withL e f v) := by
  have hx := Byt_with e f v he
  simp only [law09.ChartFields.l3]
  rw [decide_eq_true hk.2, br_true]
  refine Value_law _ _ _ he ?_
  have off : ∀ (b : Bool), b = false → valL (withL e f v) k = valL e k → law09.ChartFields.j14 (fun t => K0 t) (fun a b c d e => law09.ChartFields.l3 K0 K1 n a b c d e) f k b e v (withL e f v) (valL e k) := by
    intro b hb hv
    subst hb
    unfold law09.ChartFields.j14
    rw [br_false]
    exact j99_law _ _ _ _ _ _ _ _ hk he hx hv h
  by_cases hkf : k = f
  · subst hkf
    have : (k == k) = true := by simp
    rw [this, br_true]
    by_cases h0 : k ≥ 0
    · rw [decide_eq_true h0, br_true]
      by_cases h9 : k < 9
      · rw [decide_eq_true h9]
        unfold law09.ChartFields.j14
        rw [br_true]
        have hv := valL_same e k v ⟨h0, h9⟩
        by_cases z : k = 0
        · subst z
          have : ((0 : Int) == 0) = true := rfl
          rw [this, br_true]
          unfold law09.ChartFields.j41
          have h3 : ((0 : Int) == 3) = false := rfl
          have h5 : decide ((0 : Int) > 5) = false := rfl
          rw [h3, br_false, h5, br_false]
          refine j99_law _ _ _ _ _ _ _ _ hk he hx ?_ h
          rw [hv]
          have e1 : IntKind.wrap .i64 (IntKind.wrap .u8 v.1) = IntKind.wrap .u8 v.1 := by rw [IntKind.wrap_u8]; exact wrap_small (by omega) (by omega)
          simp [wantL, e1]
        · have : (k == 0) = false := by simpa using z
          rw [this, br_false]
          unfold law09.ChartFields.j41
          by_cases h3 : k = 3
          · have : (k == 3) = true := by simpa using h3
            rw [this, br_true]
            refine j99_law _ _ _ _ _ _ _ _ hk he hx ?_ h
            rw [hv]; simp [wantL, h3]
          · have : (k == 3) = false := by simpa using h3
            rw [this, br_false]
            by_cases h5 : k > 5
            · rw [decide_eq_true h5, br_true]
              refine j99_law _ _ _ _ _ _ _ _ hk he hx ?_ h
              have h5' : 5 < k := h5
              rw [hv]; simp [wantL, z, h5']
            · rw [decide_eq_false h5, br_false]
              refine j99_law _ _ _ _ _ _ _ _ hk he hx ?_ h
              have h5' : ¬ 5 < k := h5
              rw [hv]; simp [wantL, z, h3, h5']
      · rw [decide_eq_false h9]
        exact off false rfl (by rw [valL_off e k v (by omega)])
    · rw [decide_eq_false h0, br_false]
      exact off false rfl (by rw [valL_off e k v (by omega)])
  · have : (k == f) = false := by simpa using hkf
    rw [this, br_false]
    exact off false rfl (valL_other e f k v hkf)
end

theorem fields (by_ : Nat → Nat) (e : Elem) (f : Int) (v : Val) (hw : Wf by_ tElem e) : law09.ChartFields e f v (fun r => r = true) := by
  have he : Byt e := hw.2.1
  unfold law09.ChartFields
  refine With_law _ _ _ _ ⟨12, ?_⟩
  iterate 11 refine step_law _ _ _ _ _ _ _ (by omega) he ?_
  simp only [law09.ChartFields.l3]
  exact last_law (fun r => r = true) f e v _ (with_id e f v) rfl
end Go.Iw
