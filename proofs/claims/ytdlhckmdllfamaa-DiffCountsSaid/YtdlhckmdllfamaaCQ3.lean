/- Plain laws: one edit. -/
import Derived.Test.YtdlhckmdllfamaaCQ2
namespace Go.Iw
open Go.Iv
set_option linter.unusedVariables false
set_option linter.unusedSimpArgs false

theorem rRising_loop (c : List Elem) (K0 : Bool → Prop) (hc : c.length ≤ 1000000) (h : K0 (decide (Ris c))) : ∀ (k i n : Nat), c.length - i ≤ k → k < n → 1 ≤ i →
    (∀ a b (hb : b < c.length) (hab : a < b), b < i → (c[a]'(Nat.lt_trans hab hb)).1 < c[b].1) → r09.Rising.l2 K0 (K0 true) n c (i : Int)
  | k, i, 0, _, hn, _, _ => by omega
  | k, i, n + 1, hk, hn, h1, hr => by
    simp only [r09.Rising.l2]
    by_cases hlt : i < c.length
    · have hw : IntKind.wrap .i64 ((i : Int) - 1) = ((i - 1 : Nat) : Int) := by rw [wrap_small (by omega) (by omega)]; omega
      rw [lt_true hlt, br_true, hw]
      refine ⟨⟨by omega, by omega⟩, ⟨by omega, by omega⟩, ?_⟩
      rw [ix_nat _ _ _ (by omega : i - 1 < c.length), ix_nat _ _ _ hlt, wrap_succ _ (by omega)]
      by_cases hx : (c[i - 1]'(by omega)).1 ≥ c[i].1
      · rw [decide_eq_true hx, br_true]
        have : ¬ Ris c := fun hs => by have := ris_get hs (i - 1) i hlt (by omega); omega
        rw [decide_eq_false this] at h; exact h
      · rw [decide_eq_false hx, br_false]
        refine rRising_loop c K0 hc h (k - 1) (i + 1) n (by omega) (by omega) (by omega) ?_
        intro a b hb hab hbi
        rcases Nat.lt_or_ge b i with hbi' | hbi'
        · exact hr a b hb hab hbi'
        · have : b = i := by omega
          subst this
          rcases Nat.lt_or_ge a (b - 1) with h3 | h3
          · have := hr a (b - 1) (by omega) h3 (by omega); omega
          · have : a = b - 1 := by omega
            subst this; omega
    · rw [lt_false (by omega), br_false]
      have : Ris c := List.pairwise_iff_getElem.2 fun a b _ hb hab => hr a b hb hab (by omega)
      rw [decide_eq_true this] at h; exact h
theorem rRising_law (c : List Elem) (K : Bool → Prop) (hc : c.length ≤ 1000000) (h : K (decide (Ris c))) : r09.Rising c K :=
  ⟨c.length + 1, rRising_loop c K hc h c.length 1 _ (by omega) (by omega) (by omega) (fun a b hb h1 h2 => by omega)⟩

/-! Fields. -/
abbrev zV : Val := ((0 : Int), (noStr, ()))
def valL (e : Elem) (k : Int) : Val :=
  if k = 0 then (IntKind.wrap .i64 e.2.1, noStr, ()) else if k = 1 then (e.2.2.1, noStr, ()) else if k = 2 then (e.2.2.2.1, noStr, ()) else if k = 3 then (0, e.2.2.2.2.1, ()) else
  if k = 4 then (e.2.2.2.2.2.1, noStr, ()) else if k = 5 then (e.2.2.2.2.2.2.1, noStr, ()) else if k = 6 then (0, e.2.2.2.2.2.2.2.1, ()) else
  if k = 7 then (0, e.2.2.2.2.2.2.2.2.1, ()) else if k = 8 then (0, e.2.2.2.2.2.2.2.2.2.1, ()) else zV
def withL (e : Elem) (k : Int) (v : Val) : Elem :=
  if k = 0 then (e.1, IntKind.wrap .u8 v.1, e.2.2) else if k = 1 then (e.1, e.2.1, v.1, e.2.2.2) else if k = 2 then (e.1, e.2.1, e.2.2.1, v.1, e.2.2.2.2) else
  if k = 3 then (e.1, e.2.1, e.2.2.1, e.2.2.2.1, v.2.1, e.2.2.2.2.2) else if k = 4 then (e.1, e.2.1, e.2.2.1, e.2.2.2.1, e.2.2.2.2.1, v.1, e.2.2.2.2.2.2) else
  if k = 5 then (e.1, e.2.1, e.2.2.1, e.2.2.2.1, e.2.2.2.2.1, e.2.2.2.2.2.1, v.1, e.2.2.2.2.2.2.2) else
  if k = 6 then (e.1, e.2.1, e.2.2.1, e.2.2.2.1, e.2.2.2.2.1, e.2.2.2.2.2.1, e.2.2.2.2.2.2.1, v.2.1, e.2.2.2.2.2.2.2.2) else
  if k = 7 then (e.1, e.2.1, e.2.2.1, e.2.2.2.1, e.2.2.2.2.1, e.2.2.2.2.2.1, e.2.2.2.2.2.2.1, e.2.2.2.2.2.2.2.1, v.2.1, e.2.2.2.2.2.2.2.2.2) else
  if k = 8 then (e.1, e.2.1, e.2.2.1, e.2.2.2.1, e.2.2.2.2.1, e.2.2.2.2.2.1, e.2.2.2.2.2.2.1, e.2.2.2.2.2.2.2.1, e.2.2.2.2.2.2.2.2.1, v.2.1, e.2.2.2.2.2.2.2.2.2.2) else e
theorem nine (k : Int) : k = 0 ∨ k = 1 ∨ k = 2 ∨ k = 3 ∨ k = 4 ∨ k = 5 ∨ k = 6 ∨ k = 7 ∨ k = 8 ∨ (k < 0 ∨ 8 < k) := by omega
theorem eqV_iff (a b : Val) : eqT tVal a b = true ↔ a = b := by
  obtain ⟨a1, a2, _⟩ := a
  obtain ⟨b1, b2, _⟩ := b
  simp [eqT, ba_beq]
instance decVal : DecidableEq Val := fun a b => decidable_of_iff _ (eqV_iff a b)
theorem eqT_val (a b : Val) : eqT tVal a b = decide (a = b) := by
  rw [Bool.eq_iff_iff, eqV_iff]; simp
theorem with_id (e : Elem) (f : Int) (v : Val) : (withL e f v).1 = e.1 := by
  unfold withL
  repeat' split
  all_goals rfl

theorem Get_law (e : Elem) (k : Int) (K : Val → Prop) (h : K (valL e k)) : chart.Get e k K := by
  rcases nine k with rfl | rfl | rfl | rfl | rfl | rfl | rfl | rfl | rfl | hk
  all_goals try (simp [valL] at h; simp [chart.Get, h]; done)
  have n0 : ¬ k = 0 := by omega
  have n1 : ¬ k = 1 := by omega
  have n2 : ¬ k = 2 := by omega
  have n3 : ¬ k = 3 := by omega
  have n4 : ¬ k = 4 := by omega
  have n5 : ¬ k = 5 := by omega
  have n6 : ¬ k = 6 := by omega
  have n7 : ¬ k = 7 := by omega
  have n8 : ¬ k = 8 := by omega
  simp only [valL, n0, n1, n2, n3, n4, n5, n6, n7, n8, if_false] at h
  have b : ∀ i : Int, k ≠ i → (k == i) = false := fun i h => by simpa using h
  simp only [chart.Get, b 0 n0, b 1 n1, b 2 n2, b 3 n3, b 4 n4, b 5 n5, b 6 n6, b 7 n7, b 8 n8, br_false]
  exact h
theorem Value_law (e : Elem) (k : Int) (K : Val → Prop) (h : K (valL e k)) : r09.Value e k K := by
  rcases nine k with rfl | rfl | rfl | rfl | rfl | rfl | rfl | rfl | rfl | hk
  all_goals try (simp [valL] at h; simp [r09.Value, r09.Value.j8, ixN, h]; done)
  have n0 : ¬ k = 0 := by omega
  have n1 : ¬ k = 1 := by omega
  have n2 : ¬ k = 2 := by omega
  have n3 : ¬ k = 3 := by omega
  have n4 : ¬ k = 4 := by omega
  have n5 : ¬ k = 5 := by omega
  have n6 : ¬ k = 6 := by omega
  have n7 : ¬ k = 7 := by omega
  have n8 : ¬ k = 8 := by omega
  simp only [valL, n0, n1, n2, n3, n4, n5, n6, n7, n8, if_false] at h
  unfold r09.Value r09.Value.j8
  rcases hk with hk | hk
  · simp only [decide_eq_true hk, br_true]; exact h
  · have : ¬ k < 0 := by omega
    have h8 : k > 8 := hk
    simp only [decide_eq_false this, br_false, decide_eq_true h8, br_true]; exact h
theorem With_law (e : Elem) (k : Int) (v : Val) (K : Elem → Prop) (h : K (withL e k v)) : chart.With e k v K := by
  rcases nine k with rfl | rfl | rfl | rfl | rfl | rfl | rfl | rfl | rfl | hk
  all_goals try (simp [withL] at h; simp [chart.With, chart.With.j35, h]; done)
  have n0 : ¬ k = 0 := by omega
  have n1 : ¬ k = 1 := by omega
  have n2 : ¬ k = 2 := by omega
  have n3 : ¬ k = 3 := by omega
  have n4 : ¬ k = 4 := by omega
  have n5 : ¬ k = 5 := by omega
  have n6 : ¬ k = 6 := by omega
  have n7 : ¬ k = 7 := by omega
  have n8 : ¬ k = 8 := by omega
  simp only [withL, n0, n1, n2, n3, n4, n5, n6, n7, n8, if_false] at h
  have b : ∀ i : Int, k ≠ i → (k == i) = false := fun i h => by simpa using h
  simp only [chart.With, chart.With.j35, b 0 n0, b 1 n1, b 2 n2, b 3 n3, b 4 n4, b 5 n5, b 6 n6, b 7 n7, b 8 n8, br_false]
  exact h
theorem Set_law (e : Elem) (k : Int) (v : Val) (K : Elem → Prop) (h : K (withL e k v)) : r12.set e k v K := by
  rcases nine k with rfl | rfl | rfl | rfl | rfl | rfl | rfl | rfl | rfl | hk
  all_goals try (simp [withL] at h; simp [r12.set, r12.set.j35, h]; done)
  have n0 : ¬ k = 0 := by omega
  have n1 : ¬ k = 1 := by omega
  have n2 : ¬ k = 2 := by omega
  have n3 : ¬ k = 3 := by omega
  have n4 : ¬ k = 4 := by omega
  have n5 : ¬ k = 5 := by omega
  have n6 : ¬ k = 6 := by omega
  have n7 : ¬ k = 7 := by omega
  have n8 : ¬ k = 8 := by omega
  simp only [withL, n0, n1, n2, n3, n4, n5, n6, n7, n8, if_false] at h
  have b : ∀ i : Int, k ≠ i → (k == i) = false := fun i h => by simpa using h
  simp only [r12.set, r12.set.j35, b 0 n0, b 1 n1, b 2 n2, b 3 n3, b 4 n4, b 5 n5, b 6 n6, b 7 n7, b 8 n8, br_false]
  exact h

/-- No text. -/
def noS (v : Val) : Bool := (ByteArray.toList v.2.1) == (ByteArray.toList noStr)
def fitsS (f : Int) (v : Val) : Bool :=
  if f = 0 then noS v && (decide (v.1 ≥ 0) && decide (v.1 < 256)) else if f = 1 ∨ f = 2 ∨ f = 4 ∨ f = 5 then noS v else if f = 3 ∨ f = 6 ∨ f = 7 ∨ f = 8 then v.1 == 0 else false
theorem br_and (a b : Bool) (X Y Z : Prop) (K : Bool → Prop) : br a (K b) (K false) = K (a && b) := by cases a <;> rfl
theorem Fits_law (f : Int) (v : Val) (K : Bool → Prop) (h : K (fitsS f v)) : chart.Fits f v K := by
  unfold chart.Fits chart.Fits.j135 chart.Fits.j215
  unfold fitsS noS at h
  generalize ((ByteArray.toList v.2.1) == (ByteArray.toList noStr)) = b at *
  rcases nine f with rfl | rfl | rfl | rfl | rfl | rfl | rfl | rfl | rfl | hk
  · revert h
    cases b <;> cases decide (v.1 ≥ 0) <;> simp
  all_goals try (revert h; cases b <;> simp; done)
  have n0 : ¬ f = 0 := by omega
  have n1 : ¬ f = 1 := by omega
  have n2 : ¬ f = 2 := by omega
  have n3 : ¬ f = 3 := by omega
  have n4 : ¬ f = 4 := by omega
  have n5 : ¬ f = 5 := by omega
  have n6 : ¬ f = 6 := by omega
  have n7 : ¬ f = 7 := by omega
  have n8 : ¬ f = 8 := by omega
  simp only [n0, n1, n2, n3, n4, n5, n6, n7, n8, if_false, or_self] at h
  have b : ∀ i : Int, f ≠ i → (f == i) = false := fun i h => by simpa using h
  simp only [b 0 n0, b 1 n1, b 2 n2, b 3 n3, b 4 n4, b 5 n5, b 6 n6, b 7 n7, b 8 n8, br_false]
  exact h
theorem fits_law (f : Int) (v : Val) (K : Bool → Prop) (h : K (fitsS f v)) : r12.fits f v K := by
  unfold r12.fits r12.fits.j4 r12.fits.j8
  unfold fitsS noS at h
  generalize ((ByteArray.toList v.2.1) == (ByteArray.toList noStr)) = b at *
  rcases nine f with rfl | rfl | rfl | rfl | rfl | rfl | rfl | rfl | rfl | hk
  · revert h
    cases b <;> cases decide (v.1 ≥ 0) <;> simp
  all_goals try (revert h; cases b <;> simp; done)
  have n0 : ¬ f = 0 := by omega
  have n1 : ¬ f = 1 := by omega
  have n2 : ¬ f = 2 := by omega
  have n3 : ¬ f = 3 := by omega
  have n4 : ¬ f = 4 := by omega
  have n5 : ¬ f = 5 := by omega
  have n6 : ¬ f = 6 := by omega
  have n7 : ¬ f = 7 := by omega
  have n8 : ¬ f = 8 := by omega
  simp only [n0, n1, n2, n3, n4, n5, n6, n7, n8, if_false, or_self] at h
  rcases hk with hk | hk
  · simp only [decide_eq_true hk, br_true]; exact h
  · have : ¬ f < 0 := by omega
    have h8 : f > 8 := hk
    simp only [decide_eq_false this, br_false, decide_eq_true h8, br_true]; exact h

/-! Where one is. -/
def thereS (c : List Elem) (n : Int) : Bool := n == 0 || hasN n c
theorem there_law (c : List Elem) (n : Int) (K : Bool → Prop) (hs : Ris c) (hc : c.length ≤ 1000000) (h : K (thereS c n)) : edit.there c n K := by
  unfold edit.there
  refine cFind_law _ _ _ hs hc ?_
  unfold thereS at h
  cases hn : n == 0 with
  | true => rw [br_true]; rw [hn] at h; exact h
  | false => rw [br_false]; rw [hn] at h; exact h
theorem fidx_neg (n : Int) (c : List Elem) : decide (fidx n c 0 < 0) = !(hasN n c) := by
  rcases fidx_spec n c 0 with ⟨h1, h2⟩ | ⟨a, ha, h1, h2, h3, h4⟩
  · rw [h1]; simp [hasN, h2]
  · rw [h1, h4]; simp
theorem fidx_nonneg (n : Int) (c : List Elem) : decide (fidx n c 0 ≥ 0) = hasN n c := by
  rcases fidx_spec n c 0 with ⟨h1, h2⟩ | ⟨a, ha, h1, h2, h3, h4⟩
  · rw [h1]; simp [hasN, h2]
  · rw [h1, h4]; simp
theorem lacks_law (c : List Elem) (n : Int) (K : Bool → Prop) (hc : c.length ≤ 1000000) (h : K (!(thereS c n))) : r12.lacks c n K := by
  unfold r12.lacks
  unfold thereS at h
  by_cases hn : n = 0
  · simp [hn] at h ⊢; exact h
  · have e : (n != 0) = true := by simpa using hn
    have e' : (n == 0) = false := by simpa using hn
    rw [e, br_true]
    refine rFind_law _ _ _ hc ?_
    rw [fidx_neg]
    rw [e'] at h; exact h
def kidB (c : List Elem) (n : Int) : Bool := c.any fun x => x.2.2.1 == n
theorem parent_loop (c : List Elem) (n : Int) (K : Bool → Prop) (hc : c.length ≤ 1000000) : ∀ (k i m : Nat), i + k = c.length → k < m →
    K (kidB (c.drop i) n) → r12.parent.l2 K (K false) m c n (i : Int)
  | 0, i, m, hi, hm, h => by
    obtain ⟨m, rfl⟩ : ∃ q, m = q + 1 := ⟨m - 1, by omega⟩
    simp only [r12.parent.l2]
    rw [lt_false (by omega), br_false]
    rw [List.drop_eq_nil_of_le (by omega)] at h
    exact h
  | k + 1, i, m, hi, hm, h => by
    obtain ⟨m, rfl⟩ : ∃ q, m = q + 1 := ⟨m - 1, by omega⟩
    have hlt : i < c.length := by omega
    rw [List.drop_eq_getElem_cons hlt] at h
    simp only [r12.parent.l2]
    rw [lt_true hlt, br_true, ix_nat _ _ _ hlt, wrap_succ i (by omega)]
    refine ⟨⟨by omega, by omega⟩, ?_⟩
    simp only [kidB, List.any_cons] at h
    cases hx : c[i].2.2.1 == n with
    | true => rw [br_true]; rw [hx] at h; exact h
    | false => rw [br_false]; rw [hx] at h; exact parent_loop c n K hc k (i + 1) m (by omega) (by omega) h
theorem parent_law (c : List Elem) (n : Int) (K : Bool → Prop) (hc : c.length ≤ 1000000) (h : K (kidB c n)) : r12.parent c n K :=
  ⟨c.length + 1, parent_loop c n K hc c.length 0 _ (by omega) (by omega) (by simpa using h)⟩
/-- The numbers of what stands in an element. -/
def kids (id : Int) (c : List Elem) : List Int := (c.filter fun x => x.2.2.1 == id).map (·.1)
theorem kids_cons (id : Int) (x : Elem) (c : List Elem) : kids id (x :: c) = if x.2.2.1 == id then x.1 :: kids id c else kids id c := by
  simp only [kids, List.filter_cons]
  split <;> simp
theorem kids_loop (id : Int) (c : List Elem) (K0 : List Int → Prop) (hc : c.length ≤ 1000000) : ∀ (k i : Nat) (out : List Int) (n : Nat), i + k = c.length → k < n → out.length ≤ i → K0 (out ++ kids id (c.drop i)) → chart.Children.l3 K0 n id c (((c.length) : Nat) : Int) (i : Int) out
  | 0, i, out, n, hi, hn, ho, h => by
    obtain ⟨n, rfl⟩ : ∃ m, n = m + 1 := ⟨n - 1, by omega⟩
    simp only [chart.Children.l3]
    rw [lt_false (by omega), br_false]
    rw [List.drop_eq_nil_of_le (by omega)] at h
    simpa [kids] using h
  | k + 1, i, out, n, hi, hn, ho, h => by
    obtain ⟨n, rfl⟩ : ∃ m, n = m + 1 := ⟨n - 1, by omega⟩
    have hlt : i < c.length := by omega
    rw [List.drop_eq_getElem_cons hlt, kids_cons] at h
    simp only [chart.Children.l3, chart.Children.j59]
    rw [lt_true hlt, br_true, ix_nat _ _ _ hlt, wrap_succ i (by omega)]
    refine ⟨⟨by omega, by omega⟩, ?_⟩
    revert h
    cases hb : c[i].2.2.1 == id with
    | true =>
      intro h
      rw [br_true]
      refine ⟨⟨by simp; omega, by simp; omega⟩, kids_loop id c K0 hc k (i + 1) _ n (by omega) (by omega) (by simp; omega) ?_⟩
      simpa using h
    | false =>
      intro h
      rw [br_false]
      exact kids_loop id c K0 hc k (i + 1) _ n (by omega) (by omega) (by omega) (by simpa using h)
theorem Children_law (c : List Elem) (id : Int) (K : List Int → Prop) (hc : c.length ≤ 1000000) (h : K (kids id c)) : chart.Children c id K :=
  ⟨c.length + 1, kids_loop id c K hc c.length 0 [] _ (by omega) (by omega) (by simp) (by simpa using h)⟩
theorem kids_pos (c : List Elem) (n : Int) : decide ((((List.length (kids n c)) : Nat) : Int) > (0 : Int)) = kidB c n := by
  induction c with
  | nil => rfl
  | cons x c ih =>
    rw [kids_cons]
    simp only [kidB, List.any_cons]
    cases hx : x.2.2.1 == n with
    | true => simp
    | false => simpa [kidB] using ih

/-! One edit. -/
abbrev bareE (n : Int) : Elem := (n, ((0 : Int), ((0 : Int), ((0 : Int), (noStr, ((0 : Int), ((0 : Int), (noStr, (noStr, (noStr, ()))))))))))
def rightS (x : Edit) : Bool :=
  if x.1 = 1 ∨ x.1 = 2 then x.2.1.1 != 0 && (x.2.2.1 == 0 && (decide (x.2.2.2.1 = zV) && decide (x.2.2.2.2.1 = zV)))
  else if x.1 = 3 then x.2.1.1 != 0 && (decide (x.2.1 = bareE x.2.1.1) && (fitsS x.2.2.1 x.2.2.2.1 && fitsS x.2.2.1 x.2.2.2.2.1)) else false
theorem right_j17 (x : Edit) (K : Bool → Prop) (b : Bool) (hb : b = decide (x.1 = 1 ∨ x.1 = 2)) (h : K (rightS x)) : edit.right.j17 K x.1 b x := by
  unfold edit.right.j17
  unfold rightS at h
  rw [eqT_val, eqT_val, eqT_elem]
  by_cases h1 : x.1 = 1 ∨ x.1 = 2
  · rw [if_pos h1] at h
    rw [hb, decide_eq_true h1, br_true]
    generalize (x.2.1.1 != 0) = p at *
    generalize (x.2.2.1 == 0) = q at *
    generalize decide (x.2.2.2.1 = zV) = r at *
    generalize decide (x.2.2.2.2.1 = zV) = s at *
    revert h
    cases p <;> cases q <;> cases r <;> simp
  · rw [if_neg h1] at h
    rw [hb, decide_eq_false h1, br_false]
    by_cases h3 : x.1 = 3
    · rw [if_pos h3] at h
      have e3 : (x.1 == 3) = true := by simpa using h3
      rw [e3, br_true]
      generalize (x.2.1.1 != 0) = p at *
      generalize decide (x.2.1 = bareE x.2.1.1) = r at *
      revert h
      cases p <;> cases r <;> try (simp; done)
      simp only [Bool.true_and, br_true]
      intro h
      refine Fits_law _ _ _ ?_
      revert h
      cases fitsS x.2.2.1 x.2.2.2.1
      · simp
      · simp only [Bool.true_and, br_true]
        intro h
        exact Fits_law _ _ _ h
    · rw [if_neg h3] at h
      have e3 : (x.1 == 3) = false := by simpa using h3
      rw [e3, br_false]; exact h
theorem right_law (x : Edit) (K : Bool → Prop) (h : K (rightS x)) : edit.right x K := by
  unfold edit.right
  by_cases h1 : x.1 = 1
  · have e : (x.1 == 1) = true := by simpa using h1
    rw [e, br_true]
    exact right_j17 x K true (by simp [h1]) h
  · have e : (x.1 == 1) = false := by simpa using h1
    rw [e, br_false]
    refine right_j17 x K _ ?_ h
    rw [Bool.eq_iff_iff]; simp [h1]

def oneS (c : List Elem) (x : Edit) : List Elem × Int :=
  if rightS x = false then ([], 1)
  else if x.1 = 1 then (if hasN x.2.1.1 c = true then ([], 3) else if thereS c x.2.1.2.2.1 = false ∨ kidB c x.2.1.1 = true then ([], 14) else (putS c x.2.1, 0))
  else if hasN x.2.1.1 c = false then ([], 2)
  else if x.1 = 2 then (if findS c x.2.1.1 ≠ x.2.1 then ([], 11) else if thereS c x.2.1.2.2.1 = false ∨ kidB c x.2.1.1 = true then ([], 14) else (dropS c x.2.1.1, 0))
  else if valL (findS c x.2.1.1) x.2.2.1 ≠ x.2.2.2.1 then ([], 11)
  else if x.2.2.1 = 1 ∧ (thereS c x.2.2.2.1.1 = false ∨ thereS c x.2.2.2.2.1.1 = false) then ([], 14)
  else (putS c (withL (findS c x.2.1.1) x.2.2.1 x.2.2.2.2.1), 0)
def oneT (c : List Elem) (x : Edit) : List Elem × Int := if Ris c then oneS c x else ([], 7)
theorem rightS_op {x : Edit} (h : rightS x = true) : x.1 = 1 ∨ x.1 = 2 ∨ x.1 = 3 := by
  by_cases h1 : x.1 = 1 ∨ x.1 = 2
  · omega
  · by_cases h3 : x.1 = 3
    · omega
    · simp [rightS, h1, h3] at h

theorem one_j34 (c : List Elem) (x : Edit) (b : Bool) (K : Int → List Elem → Prop) (hs : Ris c) (hc : c.length ≤ 1000000) (h : if b = true then K 14 [] else if x.1 = 1 then K 0 (putS c x.2.1) else K 0 (dropS c x.2.1.1)) : edit.One.j34 K c b x := by
  unfold edit.One.j34
  cases b with
  | true => rw [br_true]; simpa using h
  | false =>
    rw [br_false]
    by_cases h1 : x.1 = 1
    · have e : (x.1 == 1) = true := by simpa using h1
      rw [e, br_true]
      exact cPut_law _ _ _ hs hc (by simpa [h1] using h)
    · have e : (x.1 == 1) = false := by simpa using h1
      rw [e, br_false]
      exact cDrop_law _ _ _ hs hc (by simpa [h1] using h)
theorem one_j28 (c : List Elem) (x : Edit) (was : Elem) (b : Bool) (K : Int → List Elem → Prop) (hs : Ris c) (hc : c.length ≤ 1000000) (h : if b = true then K 14 [] else K 0 (putS c (withL was x.2.2.1 x.2.2.2.2.1))) : edit.One.j28 K c b x was := by
  unfold edit.One.j28
  cases b with
  | true => rw [br_true]; simpa using h
  | false =>
    rw [br_false]
    exact With_law _ _ _ _ (cPut_law _ _ _ hs hc (by simpa using h))
theorem one_j22 (c : List Elem) (x : Edit) (was : Elem) (b : Bool) (K : Int → List Elem → Prop) (hs : Ris c) (hc : c.length ≤ 1000000)
    (h : if b = true then K 11 [] else if x.1 = 3 then (if x.2.2.1 = 1 ∧ (thereS c x.2.2.2.1.1 = false ∨ thereS c x.2.2.2.2.1.1 = false) then K 14 [] else K 0 (putS c (withL was x.2.2.1 x.2.2.2.2.1)))
      else if thereS c x.2.1.2.2.1 = false ∨ kidB c x.2.1.1 = true then K 14 [] else if x.1 = 1 then K 0 (putS c x.2.1) else K 0 (dropS c x.2.1.1)) : edit.One.j22 K c b x was := by
  unfold edit.One.j22
  cases b with
  | true => rw [br_true]; simpa using h
  | false =>
    rw [br_false]
    rw [if_neg (by simp)] at h
    by_cases h3 : x.1 = 3
    · have e : (x.1 == 3) = true := by simpa using h3
      rw [e, br_true]
      rw [if_pos h3] at h
      by_cases hf : x.2.2.1 = 1
      · have e : (x.2.2.1 == 1) = true := by simpa using hf
        rw [e, br_true]
        refine there_law _ _ _ hs hc ?_
        cases ha : thereS c x.2.2.2.1.1 with
        | false =>
          rw [Bool.not_false, br_true]
          refine one_j28 c x was _ K hs hc ?_
          rw [if_pos ⟨hf, .inl ha⟩] at h
          simpa using h
        | true =>
          rw [Bool.not_true, br_false]
          refine there_law _ _ _ hs hc ?_
          cases hb : thereS c x.2.2.2.2.1.1 with
          | false =>
            refine one_j28 c x was _ K hs hc ?_
            rw [if_pos ⟨hf, .inr hb⟩] at h
            simpa using h
          | true =>
            refine one_j28 c x was _ K hs hc ?_
            rw [if_neg (by simp [ha, hb])] at h
            simpa using h
      · have e : (x.2.2.1 == 1) = false := by simpa using hf
        rw [e, br_false]
        refine one_j28 c x was _ K hs hc ?_
        rw [if_neg (by simp [hf])] at h
        simpa using h
    · have e : (x.1 == 3) = false := by simpa using h3
      rw [e, br_false]
      rw [if_neg h3] at h
      refine there_law _ _ _ hs hc ?_
      cases ha : thereS c x.2.1.2.2.1 with
      | false =>
        rw [Bool.not_false, br_true]
        refine one_j34 c x _ K hs hc ?_
        rw [if_pos (.inl ha)] at h
        simpa using h
      | true =>
        rw [Bool.not_true, br_false]
        refine Children_law _ _ _ hc ?_
        rw [kids_pos]
        refine one_j34 c x _ K hs hc ?_
        cases hb : kidB c x.2.1.1 with
        | true => rw [if_pos (.inr hb)] at h; simpa using h
        | false => rw [if_neg (by simp [ha, hb])] at h; simpa using h
theorem one_law (c : List Elem) (x : Edit) (K : List Elem → Int → Prop) (hc : c.length ≤ 1000000) (h : K (oneT c x).1 (oneT c x).2) : edit.One c x K := by
  unfold edit.One
  refine cRising_law _ _ hc ?_
  by_cases hs : Ris c
  · rw [decide_eq_true hs, Bool.not_true, br_false]
    have e0 : oneT c x = oneS c x := by unfold oneT; rw [if_pos hs]
    rw [e0] at h
    refine right_law _ _ ?_
    cases hr : rightS x with
    | false =>
      have e : oneS c x = ([], 1) := by unfold oneS; rw [if_pos hr]
      rw [e] at h
      rw [Bool.not_false, br_true]; exact h
    | true =>
      rw [Bool.not_true, br_false]
      have hn : ¬ rightS x = false := by rw [hr]; simp
      refine cFind_law _ _ _ hs hc ?_
      have hop := rightS_op hr
      generalize hwas : findS c x.2.1.1 = was at *
      unfold edit.One.j14 edit.One.j18
      by_cases h1 : x.1 = 1
      · have e1 : (x.1 == 1) = true := by simpa using h1
        have e1' : (x.1 != 1) = false := by simp [h1]
        have e2 : (x.1 == 2) = false := by simp [h1]
        have e3 : (x.1 == 3) = false := by simp [h1]
        rw [e1, br_true]
        cases hh : hasN x.2.1.1 c with
        | true =>
          have e : oneS c x = ([], 3) := by unfold oneS; rw [if_neg hn, if_pos h1, if_pos hh]
          rw [e] at h
          rw [br_true]; exact h
        | false =>
          rw [br_false, e1', br_false, br_false, e2, br_false, e3, br_false]
          refine one_j22 c x was _ _ hs hc ?_
          rw [if_neg (by simp), if_neg (by omega)]
          have e : oneS c x = if thereS c x.2.1.2.2.1 = false ∨ kidB c x.2.1.1 = true then ([], 14) else (putS c x.2.1, 0) := by unfold oneS; rw [if_neg hn, if_pos h1, if_neg (by rw [hh]; simp)]
          rw [e] at h
          split at h
          · rename_i hq; rw [if_pos hq]; exact h
          · rename_i hq; rw [if_neg hq, if_pos h1]; exact h
      · have e1 : (x.1 == 1) = false := by simpa using h1
        have e1' : (x.1 != 1) = true := by simpa using h1
        rw [e1, br_false, br_false, e1', br_true]
        cases hh : hasN x.2.1.1 c with
        | false =>
          have e : oneS c x = ([], 2) := by unfold oneS; rw [if_neg hn, if_neg h1, if_pos hh]
          rw [e] at h
          rw [Bool.not_false, br_true]; exact h
        | true =>
          rw [Bool.not_true, br_false]
          by_cases h2 : x.1 = 2
          · have e2 : (x.1 == 2) = true := by simpa using h2
            have e3 : (x.1 == 3) = false := by simp [h2]
            rw [e2, br_true, eqT_elem]
            have e : oneS c x = if was ≠ x.2.1 then ([], 11) else if thereS c x.2.1.2.2.1 = false ∨ kidB c x.2.1.1 = true then ([], 14) else (dropS c x.2.1.1, 0) := by
              unfold oneS; rw [if_neg hn, if_neg h1, if_neg (by rw [hh]; simp), if_pos h2, hwas]
            rw [e] at h
            by_cases hw : was = x.2.1
            · rw [decide_eq_true hw, Bool.not_true, br_false, e3, br_false]
              refine one_j22 c x was _ _ hs hc ?_
              rw [if_neg (by simpa using hw)] at h
              rw [if_neg (by simp), if_neg (by omega)]
              split at h
              · rename_i hq; rw [if_pos hq]; exact h
              · rename_i hq; rw [if_neg hq, if_neg h1]; exact h
            · rw [decide_eq_false hw, Bool.not_false, br_true]
              refine one_j22 c x was _ _ hs hc ?_
              rw [if_pos hw] at h
              rw [if_pos rfl]; exact h
          · have h3 : x.1 = 3 := by omega
            have e2 : (x.1 == 2) = false := by simpa using h2
            have e3 : (x.1 == 3) = true := by simpa using h3
            rw [e2, br_false, e3, br_true]
            refine Get_law _ _ _ ?_
            rw [eqT_val]
            refine one_j22 c x was _ _ hs hc ?_
            have e : oneS c x = if valL was x.2.2.1 ≠ x.2.2.2.1 then ([], 11) else if x.2.2.1 = 1 ∧ (thereS c x.2.2.2.1.1 = false ∨ thereS c x.2.2.2.2.1.1 = false) then ([], 14) else (putS c (withL was x.2.2.1 x.2.2.2.2.1), 0) := by
              unfold oneS; rw [if_neg hn, if_neg h1, if_neg (by rw [hh]; simp), if_neg h2, hwas]
            rw [e] at h
            by_cases hw : valL was x.2.2.1 = x.2.2.2.1
            · rw [decide_eq_true hw, Bool.not_true, if_neg (by simp), if_pos h3]
              rw [if_neg (by simpa using hw)] at h
              split at h
              · rename_i hq; rw [if_pos hq]; exact h
              · rename_i hq; rw [if_neg hq]; exact h
            · rw [decide_eq_false hw, Bool.not_false, if_pos rfl]
              rw [if_pos hw] at h; exact h
  · rw [decide_eq_false hs, Bool.not_false, br_true]
    have e0 : oneT c x = ([], 7) := by unfold oneT; rw [if_neg hs]
    rw [e0] at h; exact h
end Go.Iw
