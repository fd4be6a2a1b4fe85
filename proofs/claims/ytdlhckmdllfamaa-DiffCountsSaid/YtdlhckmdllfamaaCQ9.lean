/- Plain laws: the edits between two charts. -/
import Derived.Test.YtdlhckmdllfamaaCQ8
namespace Go.Iw
open Go.Iv
set_option linter.unusedVariables false
set_option linter.unusedSimpArgs false

def addE (e : Elem) : Edit := ((1 : Int), (e, ((0 : Int), (((0 : Int), (noStr, ())), (((0 : Int), (noStr, ())), ())))))
def dropE (e : Elem) : Edit := ((2 : Int), (e, ((0 : Int), (((0 : Int), (noStr, ())), (((0 : Int), (noStr, ())), ())))))
def setE (n f : Int) (v w : Val) : Edit := ((3 : Int), (bareE n, (f, (v, (w, ())))))
def setF (x y : Elem) (f : Nat) : List Edit := if valL x (f : Int) = valL y (f : Int) then [] else [setE x.1 (f : Int) (valL x (f : Int)) (valL y (f : Int))]
def setsS (x y : Elem) : List Edit := (List.range' 0 9).flatMap (setF x y)
def setsOf (b : List Elem) (e : Elem) : List Edit := if hasN e.1 b = true then setsS e (findS b e.1) else []
def diffL (a b : List Elem) : List Edit := (orderS b a).map addE ++ (a.flatMap (setsOf b) ++ (orderS a b).reverse.map dropE)
def diffS (a b : List Elem) : List Edit × Int := if ¬ (Ris a ∧ Ris b) then ([], 7) else if okO b a = false ∨ okO a b = false then ([], 14) else (diffL a b, 0)

theorem setF_len (x y : Elem) (f : Nat) : (setF x y f).length ≤ 1 := by unfold setF; split <;> simp
theorem sets_loop (x y : Elem) (K0 : List Edit → Prop) : ∀ (k f : Nat) (l : List Edit) (n : Nat), f + k = 9 → k < n → l.length + k ≤ 1000000 →
    K0 (l ++ (List.range' f k).flatMap (setF x y)) → diff.sets.l3 K0 n (f : Int) x y l
  | 0, f, l, n, hi, hn, hl, h => by
    obtain ⟨n, rfl⟩ : ∃ m, n = m + 1 := ⟨n - 1, by omega⟩
    simp only [diff.sets.l3]
    rw [decide_eq_false (by omega), br_false]
    simpa using h
  | k + 1, f, l, n, hi, hn, hl, h => by
    obtain ⟨n, rfl⟩ : ∃ m, n = m + 1 := ⟨n - 1, by omega⟩
    simp only [diff.sets.l3, diff.sets.j67]
    rw [decide_eq_true (by omega), br_true, wrap_succ f (by omega)]
    refine Get_law _ _ _ (Get_law _ _ _ ?_)
    rw [eqT_val]
    rw [List.range'_succ, List.flatMap_cons] at h
    unfold setF at h
    by_cases hv : valL x (f : Int) = valL y (f : Int)
    · rw [decide_eq_true hv, Bool.not_true, br_false]
      rw [if_pos hv, List.nil_append] at h
      exact sets_loop x y K0 k (f + 1) l n (by omega) (by omega) (by omega) h
    · rw [decide_eq_false hv, Bool.not_false, br_true]
      rw [if_neg hv, ← List.append_assoc] at h
      exact ⟨⟨by simp; omega, by simp; omega⟩, sets_loop x y K0 k (f + 1) _ n (by omega) (by omega) (by simp; omega) h⟩
theorem sets_law (x y : Elem) (K : List Edit → Prop) (h : K (setsS x y)) : diff.sets x y K :=
  ⟨10, sets_loop x y K 9 0 [] _ (by omega) (by omega) (by simp) (by simpa [setsS] using h)⟩
theorem flatMap_len_le {α β : Type} (f : α → List β) (m : Nat) (h : ∀ x, (f x).length ≤ m) : ∀ l : List α, (l.flatMap f).length ≤ l.length * m
  | [] => by simp
  | x :: l => by
    rw [List.flatMap_cons, List.length_append, List.length_cons, Nat.add_mul, Nat.one_mul]
    have := flatMap_len_le f m h l
    have := h x
    omega
theorem setsS_len (x y : Elem) : (setsS x y).length ≤ 9 := by
  have := flatMap_len_le (setF x y) 1 (setF_len x y) (List.range' 0 9)
  simpa [setsS] using this
theorem setsOf_len (b : List Elem) (e : Elem) : (setsOf b e).length ≤ 9 := by
  unfold setsOf; split
  · exact setsS_len _ _
  · simp

theorem of_l9 (a b adds drops : List Elem) (K0 : (List Elem) → (List Elem) → (List Elem) → (List Edit) → Prop) (hl : adds.length ≤ 10000) : ∀ (k i : Nat) (l : List Edit) (n : Nat), i + k = adds.length → k < n → l.length ≤ i →
    K0 a b drops (l ++ (adds.drop i).map addE) → diff.Of.l9 K0 n a b ((adds.length : Nat) : Int) (i : Int) adds drops l
  | 0, i, l, n, hi, hn, hll, h => by
    obtain ⟨n, rfl⟩ : ∃ m, n = m + 1 := ⟨n - 1, by omega⟩
    simp only [diff.Of.l9]
    rw [lt_false (by omega), br_false]
    rw [List.drop_eq_nil_of_le (by omega)] at h
    simpa using h
  | k + 1, i, l, n, hi, hn, hll, h => by
    obtain ⟨n, rfl⟩ : ∃ m, n = m + 1 := ⟨n - 1, by omega⟩
    have hlt : i < adds.length := by omega
    simp only [diff.Of.l9]
    rw [lt_true hlt, br_true, Int.toNat_natCast, ixN_get _ _ _ hlt, wrap_succ i (by omega)]
    rw [List.drop_eq_getElem_cons hlt, List.map_cons] at h
    refine ⟨⟨by omega, by omega⟩, by omega, ⟨by simp; omega, by simp; omega⟩, ?_⟩
    exact of_l9 a b adds drops K0 hl k (i + 1) _ n (by omega) (by omega) (by simp; omega) (by simpa [addE] using h)
theorem rof_l9 (a b adds drops : List Elem) (K0 : (List Elem) → (List Elem) → (List Elem) → (List Edit) → Prop) (hl : adds.length ≤ 10000) : ∀ (k i : Nat) (l : List Edit) (n : Nat), i + k = adds.length → k < n → l.length ≤ i →
    K0 a b drops (l ++ (adds.drop i).map addE) → r12.Diff.l9 K0 n a b (i : Int) adds drops l
  | 0, i, l, n, hi, hn, hll, h => by
    obtain ⟨n, rfl⟩ : ∃ m, n = m + 1 := ⟨n - 1, by omega⟩
    simp only [r12.Diff.l9]
    rw [lt_false (by omega), br_false]
    rw [List.drop_eq_nil_of_le (by omega)] at h
    simpa using h
  | k + 1, i, l, n, hi, hn, hll, h => by
    obtain ⟨n, rfl⟩ : ∃ m, n = m + 1 := ⟨n - 1, by omega⟩
    have hlt : i < adds.length := by omega
    simp only [r12.Diff.l9]
    rw [lt_true hlt, br_true, Int.toNat_natCast, ixN_get _ _ _ hlt, wrap_succ i (by omega)]
    rw [List.drop_eq_getElem_cons hlt, List.map_cons] at h
    refine ⟨⟨by omega, by omega⟩, by omega, ⟨by simp; omega, by simp; omega⟩, ?_⟩
    exact rof_l9 a b adds drops K0 hl k (i + 1) _ n (by omega) (by omega) (by simp; omega) (by simpa [addE] using h)
theorem of_l14 (a b drops : List Elem) (K0 : (List Elem) → (List Edit) → Prop) (hs : Ris b) (ha : a.length ≤ 1000) (hb : b.length ≤ 1000) : ∀ (k i : Nat) (l : List Edit) (n : Nat), i + k = a.length → k < n → l.length + 9 * k ≤ 100000 →
    K0 drops (l ++ (a.drop i).flatMap (setsOf b)) → diff.Of.l14 K0 n b a ((a.length : Nat) : Int) (i : Int) drops l
  | 0, i, l, n, hi, hn, hll, h => by
    obtain ⟨n, rfl⟩ : ∃ m, n = m + 1 := ⟨n - 1, by omega⟩
    simp only [diff.Of.l14]
    rw [lt_false (by omega), br_false]
    rw [List.drop_eq_nil_of_le (by omega)] at h
    simpa using h
  | k + 1, i, l, n, hi, hn, hll, h => by
    obtain ⟨n, rfl⟩ : ∃ m, n = m + 1 := ⟨n - 1, by omega⟩
    have hlt : i < a.length := by omega
    simp only [diff.Of.l14, diff.Of.j155]
    rw [lt_true hlt, br_true, ix_nat _ _ _ hlt, wrap_succ i (by omega)]
    rw [List.drop_eq_getElem_cons hlt, List.flatMap_cons, ← List.append_assoc] at h
    refine ⟨⟨by omega, by omega⟩, cFind_law _ _ _ hs (by omega) ?_⟩
    cases hh : hasN a[i].1 b with
    | true =>
      have e : setsOf b a[i] = setsS a[i] (findS b a[i].1) := by unfold setsOf; rw [if_pos hh]
      have hq := setsS_len a[i] (findS b a[i].1)
      rw [e] at h
      rw [br_true]
      refine sets_law _ _ _ ⟨⟨by omega, by omega⟩, ?_⟩
      exact of_l14 a b drops K0 hs ha hb k (i + 1) _ n (by omega) (by omega) (by simp; omega) h
    | false =>
      have e : setsOf b a[i] = [] := by unfold setsOf; rw [if_neg (by rw [hh]; simp)]
      rw [e, List.append_nil] at h
      rw [br_false]
      exact of_l14 a b drops K0 hs ha hb k (i + 1) _ n (by omega) (by omega) (by omega) h
theorem of_l21 (drops : List Elem) (K0 : (List Edit) → Prop) (hd : drops.length ≤ 1000) : ∀ (k : Nat) (l : List Edit) (n : Nat), k ≤ drops.length → k < n → l.length + k ≤ 100000 →
    K0 (l ++ (drops.take k).reverse.map dropE) → diff.Of.l21 K0 n ((k : Int) - 1) drops l
  | 0, l, n, hk, hn, hll, h => by
    obtain ⟨n, rfl⟩ : ∃ m, n = m + 1 := ⟨n - 1, by omega⟩
    simp only [diff.Of.l21]
    rw [decide_eq_false (by omega), br_false]
    simpa using h
  | k + 1, l, n, hk, hn, hll, h => by
    obtain ⟨n, rfl⟩ : ∃ m, n = m + 1 := ⟨n - 1, by omega⟩
    have hlt : k < drops.length := by omega
    simp only [diff.Of.l21]
    have e1 : (((k + 1 : Nat) : Int) - 1) = (k : Int) := by omega
    have e2 : IntKind.wrap .i64 ((k : Int) - 1) = (k : Int) - 1 := wrap_small (by omega) (by omega)
    rw [e1, decide_eq_true (by omega), br_true, Int.toNat_natCast, ixN_get _ _ _ hlt, e2]
    rw [List.take_succ_eq_append_getElem hlt, List.reverse_append, List.map_append] at h
    refine ⟨⟨by omega, by omega⟩, by omega, ⟨by simp; omega, by simp; omega⟩, ?_⟩
    exact of_l21 drops K0 hd k _ n (by omega) (by omega) (by simp; omega) (by simpa [dropE] using h)
theorem rof_l24 (drops : List Elem) (K0 : (List Edit) → Prop) (hd : drops.length ≤ 1000) : ∀ (k : Nat) (l : List Edit) (n : Nat), k ≤ drops.length → k < n → l.length + k ≤ 100000 →
    K0 (l ++ (drops.take k).reverse.map dropE) → r12.Diff.l24 K0 n ((k : Int) - 1) drops l
  | 0, l, n, hk, hn, hll, h => by
    obtain ⟨n, rfl⟩ : ∃ m, n = m + 1 := ⟨n - 1, by omega⟩
    simp only [r12.Diff.l24]
    rw [decide_eq_false (by omega), br_false]
    simpa using h
  | k + 1, l, n, hk, hn, hll, h => by
    obtain ⟨n, rfl⟩ : ∃ m, n = m + 1 := ⟨n - 1, by omega⟩
    have hlt : k < drops.length := by omega
    simp only [r12.Diff.l24]
    have e1 : (((k + 1 : Nat) : Int) - 1) = (k : Int) := by omega
    have e2 : IntKind.wrap .i64 ((k : Int) - 1) = (k : Int) - 1 := wrap_small (by omega) (by omega)
    rw [e1, decide_eq_true (by omega), br_true, Int.toNat_natCast, ixN_get _ _ _ hlt, e2]
    rw [List.take_succ_eq_append_getElem hlt, List.reverse_append, List.map_append] at h
    refine ⟨⟨by omega, by omega⟩, by omega, ⟨by simp; omega, by simp; omega⟩, ?_⟩
    exact rof_l24 drops K0 hd k _ n (by omega) (by omega) (by simp; omega) (by simpa [dropE] using h)
theorem iter_len (w c : List Elem) (k : Nat) : ∀ out, (iterO w c k out).length + leftO w c (iterO w c k out) ≤ out.length + leftO w c out := by
  induction k with
  | zero => intro out; exact Nat.le_refl _
  | succ k ih => intro out; exact Nat.le_trans (ih _) (pass_len w c out).2.1
theorem order_len (c w : List Elem) : (orderS c w).length ≤ c.length := by
  have := iter_len w c (c.length + 1) []
  have := left_le w c []
  show (iterO w c (c.length + 1) []).length ≤ _
  simp at *; omega

theorem of_j12 (a b : List Elem) (t : Bool) (K : Int → List Edit → Prop) (hs : Ris b) (ha : a.length ≤ 1000) (hb : b.length ≤ 1000) (adds drops : List Elem) (hA : t = false → adds = orderS b a ∧ drops = orderS a b) (h : if t = true then K 14 [] else K 0 (diffL a b)) : diff.Of.j12 K a b t adds drops := by
  unfold diff.Of.j12
  cases t with
  | true => rw [br_true]; simpa using h
  | false =>
    rw [br_false]
    obtain ⟨rfl, rfl⟩ := hA rfl
    have l1 := order_len b a
    have l2 := order_len a b
    refine ⟨(orderS b a).length + 1, of_l9 a b _ _ _ (by omega) (orderS b a).length 0 [] _ (by omega) (by omega) (by simp) ?_⟩
    refine ⟨a.length + 1, of_l14 a b _ _ hs ha hb a.length 0 _ _ (by omega) (by omega) (by simp; omega) ?_⟩
    have l3 := flatMap_len_le (setsOf b) 9 (setsOf_len b) a
    refine ⟨(orderS a b).length + 1, ?_⟩
    rw [wrap_small (by omega) (by omega)]
    refine of_l21 _ _ (by omega) _ _ _ (Nat.le_refl _) (by omega) (by simp only [List.length_append, List.length_map, List.length_nil, List.drop_zero]; omega) ?_
    simpa [diffL] using h
theorem diff_law (a b : List Elem) (K : List Edit → Int → Prop) (ha : a.length ≤ 1000) (hb : b.length ≤ 1000) (h : K (diffS a b).1 (diffS a b).2) : diff.Of a b K := by
  unfold diff.Of
  refine cRising_law _ _ (by omega) ?_
  have no : ¬ (Ris a ∧ Ris b) → K [] 7 := fun hn => by unfold diffS at h; rw [if_pos hn] at h; exact h
  by_cases hsa : Ris a
  · rw [decide_eq_true hsa, Bool.not_true, br_false]
    refine cRising_law _ _ (by omega) ?_
    unfold diff.Of.j4
    by_cases hsb : Ris b
    · rw [decide_eq_true hsb, Bool.not_true, br_false]
      unfold diffS at h
      rw [if_neg (by simp [hsa, hsb])] at h
      refine ordered_law _ _ _ hsa ha hb (ordered_law _ _ _ hsb hb ha ?_)
      cases h1 : okO b a with
      | false =>
        rw [Bool.not_false, br_true]
        rw [h1] at h
        exact of_j12 a b true _ hsb ha hb _ _ (fun h => by cases h) (by simpa using h)
      | true =>
        rw [Bool.not_true, br_false]
        cases h2 : okO a b with
        | false =>
          rw [h2] at h
          exact of_j12 a b true _ hsb ha hb _ _ (fun h => by cases h) (by simpa using h)
        | true =>
          rw [h1, h2] at h
          exact of_j12 a b false _ hsb ha hb _ _ (fun _ => ⟨by simp, by simp⟩) (by simpa using h)
    · rw [decide_eq_false hsb, Bool.not_false, br_true]
      exact no (fun h => hsb h.2)
  · rw [decide_eq_false hsa, Bool.not_false, br_true]
    unfold diff.Of.j4
    rw [br_true]
    exact no (fun h => hsa h.1)

theorem rof_l17 (a b drops : List Elem) (i q : Nat) (hi : i < a.length) (hq : q < b.length) (K0 : (List Elem) → (List Elem) → Int → (List Elem) → (List Edit) → Prop) : ∀ (k f : Nat) (l : List Edit) (n : Nat), f + k = 9 → k < n → l.length + k ≤ 1000000 →
    K0 a b (i : Int) drops (l ++ (List.range' f k).flatMap (setF a[i] b[q])) → r12.Diff.l17 K0 n a b (i : Int) (q : Int) (f : Int) drops l
  | 0, f, l, n, hf, hn, hl, h => by
    obtain ⟨n, rfl⟩ : ∃ m, n = m + 1 := ⟨n - 1, by omega⟩
    simp only [r12.Diff.l17, r12.Diff.j36]
    rw [decide_eq_true (by omega), br_true, decide_eq_false (by omega), br_false]
    simpa using h
  | k + 1, f, l, n, hf, hn, hl, h => by
    obtain ⟨n, rfl⟩ : ∃ m, n = m + 1 := ⟨n - 1, by omega⟩
    simp only [r12.Diff.l17, r12.Diff.j36, r12.Diff.j187]
    rw [decide_eq_true (by omega), br_true, decide_eq_true (by omega), br_true, ix_nat _ _ _ hi, ix_nat _ _ _ hq, wrap_succ f (by omega)]
    refine ⟨⟨by omega, by omega⟩, Value_law _ _ _ ⟨⟨by omega, by omega⟩, Value_law _ _ _ ?_⟩⟩
    rw [eqT_val]
    rw [List.range'_succ, List.flatMap_cons] at h
    unfold setF at h
    by_cases hv : valL a[i] (f : Int) = valL b[q] (f : Int)
    · rw [decide_eq_true hv, Bool.not_true, br_false]
      rw [if_pos hv, List.nil_append] at h
      exact rof_l17 a b drops i q hi hq K0 k (f + 1) l n (by omega) (by omega) (by omega) h
    · rw [decide_eq_false hv, Bool.not_false, br_true]
      rw [if_neg hv, ← List.append_assoc] at h
      exact ⟨⟨by omega, by omega⟩, ⟨by simp; omega, by simp; omega⟩, rof_l17 a b drops i q hi hq K0 k (f + 1) _ n (by omega) (by omega) (by simp; omega) h⟩
theorem rof_l13 (a b drops : List Elem) (K0 : (List Elem) → (List Edit) → Prop) (ha : a.length ≤ 1000) (hb : b.length ≤ 1000) : ∀ (k i : Nat) (l : List Edit) (n : Nat), i + k = a.length → k < n → l.length + 9 * k ≤ 100000 →
    K0 drops (l ++ (a.drop i).flatMap (setsOf b)) → r12.Diff.l13 K0 n a b (i : Int) drops l
  | 0, i, l, n, hi, hn, hll, h => by
    obtain ⟨n, rfl⟩ : ∃ m, n = m + 1 := ⟨n - 1, by omega⟩
    simp only [r12.Diff.l13]
    rw [lt_false (by omega), br_false]
    rw [List.drop_eq_nil_of_le (by omega)] at h
    simpa using h
  | k + 1, i, l, n, hi, hn, hll, h => by
    obtain ⟨n, rfl⟩ : ∃ m, n = m + 1 := ⟨n - 1, by omega⟩
    have hlt : i < a.length := by omega
    simp only [r12.Diff.l13]
    rw [lt_true hlt, br_true, ix_nat _ _ _ hlt]
    rw [List.drop_eq_getElem_cons hlt, List.flatMap_cons, ← List.append_assoc] at h
    refine ⟨⟨by omega, by omega⟩, rFind_law _ _ _ (by omega) ?_⟩
    rcases fidx_spec a[i].1 b 0 with ⟨g1, g2⟩ | ⟨q, hq, g1, g2, g3, g4⟩
    · have e : setsOf b a[i] = [] := by unfold setsOf; rw [if_neg (by simp [hasN, g2])]
      rw [e, List.append_nil] at h
      rw [g1]
      refine ⟨1, ?_⟩
      simp only [r12.Diff.l17, r12.Diff.j36]
      rw [show decide ((-1 : Int) ≥ 0) = false from rfl, br_false, br_false, wrap_succ i (by omega)]
      exact rof_l13 a b drops K0 ha hb k (i + 1) _ n (by omega) (by omega) (by omega) h
    · have e : setsOf b a[i] = (List.range' 0 9).flatMap (setF a[i] b[q]) := by unfold setsOf; rw [if_pos g4, g2]; rfl
      have hl9 := setsOf_len b a[i]
      rw [e] at hl9
      rw [e] at h
      rw [g1, show ((0 + q : Nat) : Int) = (q : Int) from by omega]
      refine ⟨10, rof_l17 a b drops i q hlt hq _ 9 0 l _ (by omega) (by omega) (by omega) ?_⟩
      rw [wrap_succ i (by omega)]
      exact rof_l13 a b drops K0 ha hb k (i + 1) _ n (by omega) (by omega) (by rw [List.length_append]; omega) h
theorem rof_j12 (a b : List Elem) (t : Bool) (K : Int → List Edit → Prop) (ha : a.length ≤ 1000) (hb : b.length ≤ 1000) (h : if t = true then K 14 [] else K 0 (diffL a b)) : r12.Diff.j12 K a b t (orderS b a) (orderS a b) := by
  unfold r12.Diff.j12
  cases t with
  | true => rw [br_true]; simpa using h
  | false =>
    rw [br_false]
    have l1 := order_len b a
    have l2 := order_len a b
    refine ⟨(orderS b a).length + 1, rof_l9 a b _ _ _ (by omega) (orderS b a).length 0 [] _ (by omega) (by omega) (by simp) ?_⟩
    refine ⟨a.length + 1, rof_l13 a b _ _ ha hb a.length 0 _ _ (by omega) (by omega) (by simp; omega) ?_⟩
    have l3 := flatMap_len_le (setsOf b) 9 (setsOf_len b) a
    refine ⟨(orderS a b).length + 1, ?_⟩
    rw [wrap_small (by omega) (by omega)]
    refine rof_l24 _ _ (by omega) _ _ _ (Nat.le_refl _) (by omega) (by simp only [List.length_append, List.length_map, List.length_nil, List.drop_zero]; omega) ?_
    simpa [diffL] using h
theorem rdiff_law (a b : List Elem) (K : List Edit → Int → Prop) (ha : a.length ≤ 1000) (hb : b.length ≤ 1000) (h : K (diffS a b).1 (diffS a b).2) : r12.Diff a b K := by
  unfold r12.Diff
  refine rRising_law _ _ (by omega) ?_
  have no : ¬ (Ris a ∧ Ris b) → K [] 7 := fun hn => by unfold diffS at h; rw [if_pos hn] at h; exact h
  by_cases hsa : Ris a
  · rw [decide_eq_true hsa, Bool.not_true, br_false]
    refine rRising_law _ _ (by omega) ?_
    unfold r12.Diff.j4
    by_cases hsb : Ris b
    · rw [decide_eq_true hsb, Bool.not_true, br_false]
      unfold diffS at h
      rw [if_neg (by simp [hsa, hsb])] at h
      refine order_law _ _ _ hsb ha hb (order_law _ _ _ hsa hb ha ?_)
      cases h1 : okO b a with
      | false =>
        rw [Bool.not_false, br_true]
        rw [h1] at h
        exact rof_j12 a b true _ ha hb (by simpa using h)
      | true =>
        rw [Bool.not_true, br_false]
        cases h2 : okO a b with
        | false => rw [h2] at h; exact rof_j12 a b true _ ha hb (by simpa using h)
        | true => rw [h1, h2] at h; exact rof_j12 a b false _ ha hb (by simpa using h)
    · rw [decide_eq_false hsb, Bool.not_false, br_true]
      exact no (fun h => hsb h.2)
  · rw [decide_eq_false hsa, Bool.not_false, br_true]
    unfold r12.Diff.j4
    rw [br_true]
    exact no (fun h => hsa h.1)
theorem diff_len (a b : List Elem) : (diffS a b).1.length ≤ b.length + 10 * a.length := by
  unfold diffS
  split
  · simp
  · split
    · simp
    · have l1 := order_len b a
      have l2 := order_len a b
      have l3 := flatMap_len_le (setsOf b) 9 (setsOf_len b) a
      simp only [diffL, List.length_append, List.length_map, List.length_reverse]; omega
/-! Same. -/
theorem eqE_iff (a b : Edit) : eqT tEdit a b = true ↔ a = b := by
  obtain ⟨a1, a2, a3, a4, a5, _⟩ := a
  obtain ⟨b1, b2, b3, b4, b5, _⟩ := b
  simp only [eqT, Bool.and_eq_true, Prod.mk.injEq]
  have h1 := eqT_iff a2 b2
  have h2 := eqV_iff a4 b4
  have h3 := eqV_iff a5 b5
  simp only [eqT, Bool.and_eq_true] at h1 h2 h3
  rw [h1, h2, h3]
  simp
end Go.Iw
