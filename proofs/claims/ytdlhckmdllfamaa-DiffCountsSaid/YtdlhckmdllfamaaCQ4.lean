/- Plain laws: one edit, the document's; edits one behind the other. -/
import Derived.Test.YtdlhckmdllfamaaCQ3
namespace Go.Iw
open Go.Iv
set_option linter.unusedVariables false
set_option linter.unusedSimpArgs false

theorem rone_j30 (c : List Elem) (x : Edit) (b : Bool) (K : Int → List Elem → Prop) (hs : Ris c) (hc : c.length ≤ 1000000) (h : if b = true then K 14 [] else K 0 (putS c x.2.1)) : r12.One.j30 K c b x := by
  unfold r12.One.j30
  cases b with
  | true => rw [br_true]; simpa using h
  | false => rw [br_false]; exact rPut_law _ _ _ hs hc (by simpa using h)
theorem rone_j46 (c : List Elem) (x : Edit) (b : Bool) (K : Int → List Elem → Prop) (hs : Ris c) (hc : c.length ≤ 1000000) (h : if b = true then K 14 [] else K 0 (dropS c x.2.1.1)) : r12.One.j46 K c b x := by
  unfold r12.One.j46
  cases b with
  | true => rw [br_true]; simpa using h
  | false => rw [br_false]; exact rDrop_law _ _ _ hc (by simpa using h)
theorem rone_j56 (c : List Elem) (x : Edit) (a : Nat) (ha : a < c.length) (b : Bool) (K : Int → List Elem → Prop) (hs : Ris c) (hc : c.length ≤ 1000000) (h : if b = true then K 14 [] else K 0 (putS c (withL c[a] x.2.2.1 x.2.2.2.2.1))) : r12.One.j56 K c (a : Int) b x := by
  unfold r12.One.j56
  cases b with
  | true => rw [br_true]; simpa using h
  | false =>
    rw [br_false, ix_nat _ _ _ ha]
    exact ⟨⟨by omega, by omega⟩, Set_law _ _ _ _ (rPut_law _ _ _ hs hc (by simpa using h))⟩

theorem rone_j18 (c : List Elem) (x : Edit) (K : Int → List Elem → Prop) (hs : Ris c) (hc : c.length ≤ 1000000) (hr : rightS x = true) (h : K (oneS c x).2 (oneS c x).1) : r12.One.j18 K c false x := by
  unfold r12.One.j18
  rw [br_false]
  have hn : ¬ rightS x = false := by rw [hr]; simp
  have hop := rightS_op hr
  refine rFind_law _ _ _ hc ?_
  by_cases h1 : x.1 = 1
  · have e1 : (x.1 == 1) = true := by simpa using h1
    rw [e1, br_true, fidx_nonneg]
    cases hh : hasN x.2.1.1 c with
    | true =>
      have e : oneS c x = ([], 3) := by unfold oneS; rw [if_neg hn, if_pos h1, if_pos hh]
      rw [e] at h
      rw [br_true]; exact h
    | false =>
      rw [br_false]
      have e : oneS c x = if thereS c x.2.1.2.2.1 = false ∨ kidB c x.2.1.1 = true then ([], 14) else (putS c x.2.1, 0) := by unfold oneS; rw [if_neg hn, if_pos h1, if_neg (by rw [hh]; simp)]
      rw [e] at h
      refine lacks_law _ _ _ hc ?_
      cases ha : thereS c x.2.1.2.2.1 with
      | false =>
        rw [Bool.not_false, br_true]
        refine rone_j30 c x _ K hs hc ?_
        rw [if_pos (.inl ha)] at h
        simpa using h
      | true =>
        rw [Bool.not_true, br_false]
        refine parent_law _ _ _ hc ?_
        refine rone_j30 c x _ K hs hc ?_
        cases hb : kidB c x.2.1.1 with
        | true => rw [if_pos (.inr hb)] at h; simpa using h
        | false => rw [if_neg (by simp [ha, hb])] at h; simpa using h
  · have e1 : (x.1 == 1) = false := by simpa using h1
    rw [e1, br_false]
    rcases fidx_spec x.2.1.1 c 0 with ⟨g1, g2⟩ | ⟨a, ha, g1, g2, g3, g4⟩
    · rw [g1]
      have hh : hasN x.2.1.1 c = false := by simp [hasN, g2]
      have e : oneS c x = ([], 2) := by unfold oneS; rw [if_neg hn, if_neg h1, if_pos hh]
      rw [e] at h
      rw [show decide ((-1 : Int) < 0) = true from rfl, br_true]; exact h
    · rw [g1, show ((0 + a : Nat) : Int) = (a : Int) from by omega]
      rw [show decide ((a : Int) < 0) = false from by simp, br_false]
      by_cases h2 : x.1 = 2
      · have e2 : (x.1 == 2) = true := by simpa using h2
        rw [e2, br_true, ix_nat _ _ _ ha, eqT_elem]
        refine ⟨⟨by omega, by omega⟩, ?_⟩
        have e : oneS c x = if c[a] ≠ x.2.1 then ([], 11) else if thereS c x.2.1.2.2.1 = false ∨ kidB c x.2.1.1 = true then ([], 14) else (dropS c x.2.1.1, 0) := by
          unfold oneS; rw [if_neg hn, if_neg h1, if_neg (by rw [g4]; simp), if_pos h2, g2]
        rw [e] at h
        by_cases hw : c[a] = x.2.1
        · rw [decide_eq_true hw, Bool.not_true, br_false]
          rw [if_neg (by simpa using hw)] at h
          refine lacks_law _ _ _ hc ?_
          cases ha : thereS c x.2.1.2.2.1 with
          | false =>
            rw [Bool.not_false, br_true]
            refine rone_j46 c x _ K hs hc ?_
            rw [if_pos (.inl ha)] at h
            simpa using h
          | true =>
            rw [Bool.not_true, br_false]
            refine parent_law _ _ _ hc ?_
            refine rone_j46 c x _ K hs hc ?_
            cases hb : kidB c x.2.1.1 with
            | true => rw [if_pos (.inr hb)] at h; simpa using h
            | false => rw [if_neg (by simp [ha, hb])] at h; simpa using h
        · rw [decide_eq_false hw, Bool.not_false, br_true]
          rw [if_pos hw] at h; exact h
      · have e2 : (x.1 == 2) = false := by simpa using h2
        rw [e2, br_false, ix_nat _ _ _ ha]
        refine ⟨⟨by omega, by omega⟩, Value_law _ _ _ ?_⟩
        rw [eqT_val]
        have e : oneS c x = if valL c[a] x.2.2.1 ≠ x.2.2.2.1 then ([], 11) else if x.2.2.1 = 1 ∧ (thereS c x.2.2.2.1.1 = false ∨ thereS c x.2.2.2.2.1.1 = false) then ([], 14) else (putS c (withL c[a] x.2.2.1 x.2.2.2.2.1), 0) := by
          unfold oneS; rw [if_neg hn, if_neg h1, if_neg (by rw [g4]; simp), if_neg h2, g2]
        rw [e] at h
        by_cases hw : valL c[a] x.2.2.1 = x.2.2.2.1
        · rw [decide_eq_true hw, Bool.not_true, br_false]
          rw [if_neg (by simpa using hw)] at h
          by_cases hf : x.2.2.1 = 1
          · have e : (x.2.2.1 == 1) = true := by simpa using hf
            rw [e, br_true]
            refine lacks_law _ _ _ hc ?_
            cases hp : thereS c x.2.2.2.1.1 with
            | false =>
              rw [Bool.not_false, br_true]
              refine rone_j56 c x a ha _ K hs hc ?_
              rw [if_pos ⟨hf, .inl hp⟩] at h
              simpa using h
            | true =>
              rw [Bool.not_true, br_false]
              refine lacks_law _ _ _ hc ?_
              refine rone_j56 c x a ha _ K hs hc ?_
              cases hb : thereS c x.2.2.2.2.1.1 with
              | false => rw [if_pos ⟨hf, .inr hb⟩] at h; simpa using h
              | true => rw [if_neg (by simp [hp, hb])] at h; simpa using h
          · have e : (x.2.2.1 == 1) = false := by simpa using hf
            rw [e, br_false]
            refine rone_j56 c x a ha _ K hs hc ?_
            rw [if_neg (by simp [hf])] at h
            simpa using h
        · rw [decide_eq_false hw, Bool.not_false, br_true]
          rw [if_pos hw] at h; exact h
theorem rone_j18t (c : List Elem) (x : Edit) (K : Int → List Elem → Prop) (b : Bool) (hs : Ris c) (hc : c.length ≤ 1000000) (hb : b = !(rightS x)) (h : K (oneS c x).2 (oneS c x).1) : r12.One.j18 K c b x := by
  cases hr : rightS x with
  | true => rw [hb, hr]; exact rone_j18 c x K hs hc hr h
  | false =>
    rw [hb, hr]
    unfold r12.One.j18
    rw [Bool.not_false, br_true]
    have e : oneS c x = ([], 1) := by unfold oneS; rw [if_pos hr]
    rw [e] at h; exact h
theorem rone_no (c : List Elem) (x : Edit) (K : Int → List Elem → Prop) (hr : rightS x = false) (h : K (oneS c x).2 (oneS c x).1) : K 1 [] := by
  have e : oneS c x = ([], 1) := by unfold oneS; rw [if_pos hr]
  rw [e] at h; exact h
theorem rone_j14 (c : List Elem) (x : Edit) (K : Int → List Elem → Prop) (hs : Ris c) (hc : c.length ≤ 1000000) (h1 : 1 ≤ x.1) (h3 : x.1 ≤ 3) (hid : x.2.1.1 ≠ 0) (hz : x.1 ≤ 2 → x.2.2.1 = 0 ∧ x.2.2.2.1 = zV ∧ x.2.2.2.2.1 = zV) (h : K (oneS c x).2 (oneS c x).1) : r12.One.j14 K c false x := by
  unfold r12.One.j14
  rw [br_false]
  by_cases hx : x.1 = 3
  · have e : (x.1 == 3) = true := by simpa using hx
    have hr : rightS x = (decide (x.2.1 = bareE x.2.1.1) && (fitsS x.2.2.1 x.2.2.2.1 && fitsS x.2.2.1 x.2.2.2.2.1)) := by
      unfold rightS
      rw [if_neg (by omega), if_pos hx, show (x.2.1.1 != 0) = true from by simpa using hid, Bool.true_and]
    rw [e, br_true, eqT_elem]
    change br (!decide (x.2.1 = bareE x.2.1.1)) _ _
    cases hb : decide (x.2.1 = bareE x.2.1.1) with
    | false =>
      rw [Bool.not_false, br_true]
      exact rone_j18t c x K _ hs hc (by rw [hr, hb]; rfl) h
    | true =>
      rw [Bool.not_true, br_false]
      refine fits_law _ _ _ ?_
      cases hf : fitsS x.2.2.1 x.2.2.2.1 with
      | false =>
        rw [Bool.not_false, br_true]
        exact rone_j18t c x K _ hs hc (by rw [hr, hb, hf]; rfl) h
      | true =>
        rw [Bool.not_true, br_false]
        refine fits_law _ _ _ ?_
        exact rone_j18t c x K _ hs hc (by rw [hr, hb, hf]; rfl) h
  · have e : (x.1 == 3) = false := by simpa using hx
    rw [e, br_false]
    obtain ⟨z1, z2, z3⟩ := hz (by omega)
    refine rone_j18t c x K _ hs hc ?_ h
    unfold rightS
    rw [if_pos (by omega), show (x.2.1.1 != 0) = true from by simpa using hid, z1, z2, z3]
    simp
theorem rone_law (c : List Elem) (x : Edit) (K : List Elem → Int → Prop) (hc : c.length ≤ 1000000) (h : K (oneT c x).1 (oneT c x).2) : r12.One c x K := by
  unfold r12.One
  refine rRising_law _ _ hc ?_
  by_cases hs : Ris c
  · rw [decide_eq_true hs, Bool.not_true, br_false]
    have e0 : oneT c x = oneS c x := by unfold oneT; rw [if_pos hs]
    rw [e0] at h
    by_cases h1 : x.1 < 1
    · rw [decide_eq_true h1, br_true]
      unfold r12.One.j10
      rw [br_true]
      exact rone_no c x (fun e t => K t e) (by unfold rightS; rw [if_neg (by omega), if_neg (by omega)]) h
    rw [decide_eq_false h1, br_false]
    by_cases h3 : x.1 > 3
    · rw [decide_eq_true h3, br_true]
      unfold r12.One.j10
      rw [br_true]
      exact rone_no c x (fun e t => K t e) (by unfold rightS; rw [if_neg (by omega), if_neg (by omega)]) h
    rw [decide_eq_false h3, br_false]
    unfold r12.One.j10
    by_cases hid : x.2.1.1 = 0
    · rw [show (x.2.1.1 == 0) = true from by simpa using hid, br_true]
      refine rone_no c x (fun e t => K t e) ?_ h
      unfold rightS
      rw [show (x.2.1.1 != 0) = false from by simp [hid]]
      simp
    rw [show (x.2.1.1 == 0) = false from by simpa using hid, br_false, eqT_val, eqT_val]
    by_cases h2 : x.1 < 3
    · rw [decide_eq_true h2, br_true]
      have no : ¬ (x.2.2.1 = 0 ∧ x.2.2.2.1 = zV ∧ x.2.2.2.2.1 = zV) → r12.One.j14 (fun e t => K t e) c true x := by
        intro hz
        unfold r12.One.j14
        rw [br_true]
        refine rone_no c x (fun e t => K t e) ?_ h
        unfold rightS
        rw [if_pos (by omega)]
        by_cases z1 : x.2.2.1 = 0 <;> by_cases z2 : x.2.2.2.1 = zV <;> by_cases z3 : x.2.2.2.2.1 = zV <;> simp_all
      by_cases z1 : x.2.2.1 = 0
      · rw [show (x.2.2.1 != 0) = false from by simp [z1], br_false]
        by_cases z2 : x.2.2.2.1 = zV
        · rw [decide_eq_true z2, Bool.not_true, br_false]
          by_cases z3 : x.2.2.2.2.1 = zV
          · rw [decide_eq_true z3, Bool.not_true]
            exact rone_j14 c x _ hs hc (by omega) (by omega) hid (fun _ => ⟨z1, z2, z3⟩) h
          · rw [decide_eq_false z3, Bool.not_false]
            exact no (by simp [z3])
        · rw [decide_eq_false z2, Bool.not_false, br_true]
          exact no (by simp [z2])
      · rw [show (x.2.2.1 != 0) = true from by simpa using z1, br_true]
        exact no (by simp [z1])
    · rw [decide_eq_false h2, br_false]
      exact rone_j14 c x _ hs hc (by omega) (by omega) hid (fun h => by omega) h
  · rw [decide_eq_false hs, Bool.not_false, br_true]
    have e0 : oneT c x = ([], 7) := by unfold oneT; rw [if_neg hs]
    rw [e0] at h; exact h

/-- How long it may be; that numbers still rise. -/
theorem one_len (c : List Elem) (x : Edit) : (oneT c x).1.length ≤ c.length + 1 := by
  unfold oneT oneS
  have h1 := put_len c x.2.1
  have h2 := drop_len c x.2.1.1
  have h3 := put_len c (withL (findS c x.2.1.1) x.2.2.1 x.2.2.2.2.1)
  repeat' split
  all_goals first | (simp; done) | (simp only []; omega)
theorem one_ris (c : List Elem) (x : Edit) (h : (oneT c x).2 = 0) : Ris c ∧ Ris (oneT c x).1 := by
  unfold oneT at h ⊢
  by_cases hs : Ris c
  · rw [if_pos hs] at h ⊢
    refine ⟨hs, ?_⟩
    unfold oneS at h ⊢
    repeat' split
    all_goals first | exact List.Pairwise.nil | exact put_ris _ hs | exact drop_ris _ hs
  · rw [if_neg hs] at h; cases h
end Go.Iw
