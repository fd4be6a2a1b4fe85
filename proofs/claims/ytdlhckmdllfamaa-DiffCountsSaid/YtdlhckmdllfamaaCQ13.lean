/- Plain laws: charts that keep the rules have an order. -/
import Derived.Test.YtdlhckmdllfamaaCQ12
namespace Go.Iw
open Go.Iv
set_option linter.unusedVariables false
set_option linter.unusedSimpArgs false

/-- Going up. -/
def upS (c : List Elem) (e : Elem) : Elem := findS c e.2.2.1
def upN (c : List Elem) : Nat → Elem → Elem
  | 0, e => e
  | k + 1, e => upN c k (upS c e)
theorem upN_succ (c : List Elem) : ∀ (k : Nat) (e : Elem), upN c (k + 1) e = upS c (upN c k e)
  | 0, _ => rfl
  | k + 1, e => by
    show upN c (k + 1) (upS c e) = _
    rw [upN_succ c k (upS c e)]; rfl
theorem upN_add (c : List Elem) : ∀ (a b : Nat) (e : Elem), upN c (a + b) e = upN c a (upN c b e)
  | a, 0, e => rfl
  | a, b + 1, e => by
    show upN c (a + b) (upS c e) = upN c a (upN c b (upS c e))
    exact upN_add c a b _
/-- Who goes up and comes to itself breaks rule 5. -/
theorem brk5_hit (c : List Elem) (id : Int) : ∀ (j k : Nat) (e : Elem), (∀ i, i < j → hasN (upN c i e).2.2.1 c = true) → (upN c j e).2.2.1 = id → j < k → brk5 c id k e.2.2.1 = true
  | 0, k, e, _, h, hk => by
    obtain ⟨k, rfl⟩ : ∃ q, k = q + 1 := ⟨k - 1, by omega⟩
    unfold brk5
    rw [if_pos (show e.2.2.1 = id from h)]
  | j + 1, k, e, hh, h, hk => by
    obtain ⟨k, rfl⟩ : ∃ q, k = q + 1 := ⟨k - 1, by omega⟩
    unfold brk5
    by_cases he : e.2.2.1 = id
    · rw [if_pos he]
    · rw [if_neg he, if_pos (show hasN e.2.2.1 c = true from hh 0 (by omega))]
      exact brk5_hit c id j k (upS c e) (fun i hi => hh (i + 1) (by omega)) h (by omega)
/-- So many in a row among fewer: two are one. -/
theorem pigeon : ∀ (c : List Elem) (f : Nat → Elem), (∀ i, i ≤ c.length → f i ∈ c) → ∃ i j, i < j ∧ j ≤ c.length ∧ f i = f j := by
  intro c
  induction h : c.length generalizing c with
  | zero =>
    intro f hf
    have := hf 0 (by omega)
    rw [List.eq_nil_of_length_eq_zero h] at this
    simp at this
  | succ m ih =>
    intro f hf
    by_cases hd : ∃ i, i ≤ m ∧ f i = f (m + 1)
    · obtain ⟨i, hi, e⟩ := hd
      exact ⟨i, m + 1, by omega, by omega, e⟩
    · have hmem := hf (m + 1) (by omega)
      obtain ⟨l1, l2, hc⟩ := List.append_of_mem hmem
      have hl : (l1 ++ l2).length = m := by rw [hc] at h; simp at h ⊢; omega
      obtain ⟨i, j, hij, hj, e⟩ := ih (l1 ++ l2) hl f fun i hi => by
        have h1 := hf i (by omega)
        rw [hc] at h1
        rcases List.mem_append.1 h1 with h1 | h1
        · exact List.mem_append_left _ h1
        · rcases List.mem_cons.1 h1 with h1 | h1
          · exact (hd ⟨i, by omega, h1⟩).elim
          · exact List.mem_append_right _ h1
      exact ⟨i, j, hij, by omega, e⟩
/-- Nothing more comes. -/
theorem iter_end (w c : List Elem) : ∀ (k : Nat) (out : List Elem), leftO w c out < k → passO w c (iterO w c k out) = iterO w c k out
  | 0, out, h => by omega
  | k + 1, out, h => by
    show passO w c (iterO w c k (passO w c out)) = iterO w c k (passO w c out)
    obtain ⟨p1, p2, p3⟩ := pass_len w c out
    by_cases hl : out.length < (passO w c out).length
    · exact iter_end w c k (passO w c out) (by omega)
    · have e := p3 (by omega)
      rw [e, iter_fix e]; exact e
theorem order_end (c w : List Elem) : passO w c (orderS c w) = orderS c w := iter_end w c _ _ (by have := left_le w c []; omega)
theorem step_fix {w : List Elem} : ∀ (c out : List Elem), passO w c out = out → ∀ e : Elem, e ∈ c → nowS w out e.1 = true ∨ (e.2.2.1 ≠ 0 ∧ nowS w out e.2.2.1 = false)
  | x :: c, out, h, e, he => by
    have e1 : stepO w out x = out := by
      have l1 := (step_len (w := w) (c := x :: c) (out := out) (e := x) (by simp))
      have l2 := (fold_len (w := w) (c := x :: c) c (stepO w out x) fun y hy => by simp [hy]).1
      have : (c.foldl (stepO w) (stepO w out x)).length = out.length := by
        have := congrArg List.length h
        exact this
      exact l1.2.2 (by omega)
    rcases List.mem_cons.1 he with rfl | he
    · unfold stepO at e1
      cases hn : nowS w out e.1 with
      | true => exact .inl rfl
      | false =>
        rw [if_neg (by rw [hn]; simp)] at e1
        cases hp : (e.2.2.1 == 0 || nowS w out e.2.2.1) with
        | true =>
          rw [if_pos hp] at e1
          have := congrArg List.length e1
          simp at this
        | false =>
          rw [Bool.or_eq_false_iff] at hp
          exact .inr ⟨by simpa using hp.1, hp.2⟩
    · refine step_fix c out ?_ e he
      have h' : c.foldl (stepO w) (stepO w out x) = out := h
      rw [e1] at h'; exact h'
/-- A chart that keeps the rules can be put together. -/
theorem ok_rules (c w : List Elem) (h : RulesOk c) : okO c w = true := by
  unfold okO
  rw [decide_eq_true_eq, left0]
  intro e he
  cases hn : nowS w (orderS c w) e.1 with
  | true => rfl
  | false =>
    exfalso
    have hfix := step_fix c (orderS c w) (order_end c w)
    have hup : ∀ x : Elem, x ∈ c → nowS w (orderS c w) x.1 = false → hasN x.2.2.1 c = true ∧ upS c x ∈ c ∧ nowS w (orderS c w) (upS c x).1 = false ∧ (upS c x).1 = x.2.2.1 := fun x hx hxn => by
      rcases hfix x hx with h1 | ⟨h1, h2⟩
      · rw [hxn] at h1; cases h1
      · rcases (h.2 x hx).1 with h3 | h3
        · exact (h1 h3).elim
        · obtain ⟨m1, m2⟩ := findS_mem h3
          exact ⟨h3, m1, by unfold upS; rw [m2]; exact h2, m2⟩
    have hall : ∀ i, upN c i e ∈ c ∧ nowS w (orderS c w) (upN c i e).1 = false := by
      intro i
      induction i with
      | zero => exact ⟨he, hn⟩
      | succ i ih =>
        rw [upN_succ]
        obtain ⟨_, b, d, _⟩ := hup _ ih.1 ih.2
        exact ⟨b, d⟩
    obtain ⟨i, j, hij, hj, eq⟩ := pigeon c (fun i => upN c i e) fun i _ => (hall i).1
    have eq : upN c i e = upN c j e := eq
    obtain ⟨k, rfl⟩ : ∃ k, j = i + (k + 1) := ⟨j - i - 1, by omega⟩
    have hx := hall i
    have e2 : upN c (k + 1) (upN c i e) = upN c i e := by rw [← upN_add, show k + 1 + i = i + (k + 1) from by omega]; exact eq.symm
    generalize hX : upN c i e = X at hx e2
    have hall' : ∀ q, upN c q X ∈ c ∧ nowS w (orderS c w) (upN c q X).1 = false := fun q => by rw [← hX, ← upN_add]; exact hall _
    have hk := hup _ (hall' k).1 (hall' k).2
    rw [upN_succ] at e2
    have : brk5 c X.1 c.length X.2.2.1 = true := brk5_hit c X.1 k c.length X (fun q _ => (hup _ (hall' q).1 (hall' q).2).1) (by rw [← hk.2.2.2, e2]) (by omega)
    have := (h.2 X hx.1).2
    unfold Ok5 at this
    simp_all
end Go.Iw
