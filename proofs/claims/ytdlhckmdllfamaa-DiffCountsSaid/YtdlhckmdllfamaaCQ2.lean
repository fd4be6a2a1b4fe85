/- Plain laws: the document's charts. -/
import Derived.Test.YtdlhckmdllfamaaCQ1
namespace Go.Iw
open Go.Iv
set_option linter.unusedVariables false
set_option linter.unusedSimpArgs false

/-! Put. -/
/-- One round. -/
def pf (e : Elem) (s : Bool × List Elem) (x : Elem) : Bool × List Elem :=
  let s1 : Bool × List Elem := bif !s.1 && decide (x.1 ≥ e.1) then (true, s.2 ++ [e]) else s
  bif x.1 != e.1 then (s1.1, s1.2 ++ [x]) else s1
/-- The document's Put. -/
def putR (c : List Elem) (e : Elem) : List Elem :=
  let s := c.foldl (pf e) (false, [])
  bif s.1 then s.2 else s.2 ++ [e]

section
variable (K : (List Elem) → Bool → Int → Elem → (List Elem) → Prop) (c : List Elem) (i : Nat) (hi : i < c.length) (e : Elem)

theorem j37_law (done : Bool) (out : List Elem) (hc : c.length ≤ 1000000) (ho : out.length ≤ 2 * i + 1) (h : K c done ((i + 1 : Nat) : Int) e (bif c[i].1 != e.1 then out ++ [c[i]] else out)) : r09.Put.j37 K c done i e out := by
  unfold r09.Put.j37 r09.Put.j91
  refine ⟨⟨by omega, by omega⟩, ?_⟩
  rw [ix_nat _ _ _ hi, wrap_succ i (by omega)]
  revert h
  cases c[i].1 != e.1 with
  | true =>
    intro h
    rw [br_true]
    refine ⟨⟨by omega, by omega⟩, ⟨by simp; omega, by simp; omega⟩, h⟩
  | false =>
    intro h
    rw [br_false]; exact h

theorem j14_law (done b : Bool) (out : List Elem) (hc : c.length ≤ 1000000) (ho : out.length ≤ 2 * i)
    (h : K c (b || done) ((i + 1 : Nat) : Int) e (bif c[i].1 != e.1 then (bif b then out ++ [e] else out) ++ [c[i]] else (bif b then out ++ [e] else out))) : r09.Put.j14 K c done i b e out := by
  unfold r09.Put.j14
  cases b with
  | true =>
    rw [br_true]
    exact ⟨⟨by simp; omega, by simp; omega⟩, j37_law _ c i hi e true _ hc (by simp; omega) h⟩
  | false =>
    rw [br_false]
    exact j37_law _ c i hi e done _ hc (by omega) h
end

theorem put_loop (c : List Elem) (e : Elem) (K0 : Bool → Elem → (List Elem) → Prop) (hc : c.length ≤ 1000000) : ∀ (k i : Nat) (done : Bool) (out : List Elem) (n : Nat), i + k = c.length → k < n → out.length ≤ 2 * i →
    K0 ((c.drop i).foldl (pf e) (done, out)).1 e ((c.drop i).foldl (pf e) (done, out)).2 → r09.Put.l4 K0 n c done (i : Int) e out
  | 0, i, done, out, n, hi, hn, ho, h => by
    obtain ⟨n, rfl⟩ : ∃ m, n = m + 1 := ⟨n - 1, by omega⟩
    simp only [r09.Put.l4]
    rw [lt_false (by omega), br_false]
    rw [List.drop_eq_nil_of_le (by omega)] at h
    exact h
  | k + 1, i, done, out, n, hi, hn, ho, h => by
    obtain ⟨n, rfl⟩ : ∃ m, n = m + 1 := ⟨n - 1, by omega⟩
    have hlt : i < c.length := by omega
    have hd : c.drop i = c[i] :: c.drop (i + 1) := List.drop_eq_getElem_cons hlt
    rw [hd, List.foldl_cons] at h
    simp only [r09.Put.l4]
    rw [lt_true hlt, br_true, ix_nat _ _ _ hlt]
    have go : ∀ b : Bool, b = (!done && decide (c[i].1 ≥ e.1)) → r09.Put.j14 (fun a b c d e => r09.Put.l4 K0 n a b c d e) c done i b e out := by
      intro b hb
      refine j14_law _ c i hlt e done b out hc ho ?_
      have hs : pf e (done, out) c[i] = (b || done, bif c[i].1 != e.1 then (bif b then out ++ [e] else out) ++ [c[i]] else (bif b then out ++ [e] else out)) := by
        simp only [pf, ← hb]
        cases b <;> cases c[i].1 != e.1 <;> simp
      rw [hs] at h
      refine put_loop c e K0 hc k (i + 1) _ _ n (by omega) (by omega) ?_ h
      cases b <;> cases c[i].1 != e.1 <;> simp <;> omega
    cases done with
    | false =>
      rw [Bool.not_false, br_true]
      exact ⟨⟨by omega, by omega⟩, go _ (by simp)⟩
    | true =>
      rw [Bool.not_true, br_false]
      exact go _ (by simp)

/-- How long it may be. -/
theorem pf_len (e : Elem) : ∀ (c : List Elem) (s : Bool × List Elem), (c.foldl (pf e) s).2.length + (bif s.1 then 1 else 0) ≤ s.2.length + c.length + (bif (c.foldl (pf e) s).1 then 1 else 0)
  | [], s => by simp
  | x :: c, s => by
    rw [List.foldl_cons]
    have := pf_len e c (pf e s x)
    have h2 : (pf e s x).2.length + (bif s.1 then 1 else 0) ≤ s.2.length + 1 + (bif (pf e s x).1 then 1 else 0) := by
      obtain ⟨d, o⟩ := s
      simp only [pf]
      cases d <;> cases decide (x.1 ≥ e.1) <;> cases x.1 != e.1 <;> simp <;> omega
    simp only [List.length_cons]
    omega
theorem putR_len (c : List Elem) (e : Elem) : (putR c e).length ≤ c.length + 1 := by
  have := pf_len e c (false, [])
  simp only [putR]
  revert this
  cases (c.foldl (pf e) (false, [])).1 <;> simp <;> omega

theorem Put_law (c : List Elem) (e : Elem) (K : List Elem → Prop) (hc : c.length ≤ 1000000) (h : K (putR c e)) : r09.Put c e K := by
  refine ⟨c.length + 1, put_loop c e _ hc c.length 0 false [] _ (by omega) (by omega) (by simp) ?_⟩
  rw [List.drop_zero]
  have hl := pf_len e c (false, [])
  simp only [putR] at h
  revert h hl
  cases (c.foldl (pf e) (false, [])).1 with
  | true => intro h _; exact h
  | false =>
    intro h hl
    simp at hl
    rw [Bool.not_false, br_true]
    exact ⟨⟨by simp; omega, by simp; omega⟩, h⟩

theorem pf_done (e : Elem) : ∀ (c out : List Elem), (∀ x ∈ c, e.1 < x.1) → c.foldl (pf e) (true, out) = (true, out ++ c)
  | [], out, _ => by simp
  | x :: c, out, h => by
    have hx := h x (by simp)
    have e1 : (x.1 != e.1) = true := by simp; omega
    have : pf e (true, out) x = (true, out ++ [x]) := by simp [pf, e1]
    rw [List.foldl_cons, this, pf_done e c _ fun y hy => h y (by simp [hy])]
    simp
theorem pf_fold (e : Elem) : ∀ (c out : List Elem), Ris c → (bif (c.foldl (pf e) (false, out)).1 then (c.foldl (pf e) (false, out)).2 else (c.foldl (pf e) (false, out)).2 ++ [e]) = out ++ putS c e
  | [], out, _ => by simp [putS, lows, highs]
  | x :: c, out, h => by
    have h1 := (ris_cons.1 h).1
    rw [List.foldl_cons]
    rcases Int.lt_trichotomy x.1 e.1 with hx | hx | hx
    · have e1 : (x.1 != e.1) = true := by simp; omega
      have e2 : decide (x.1 ≥ e.1) = false := by simp; omega
      have : pf e (false, out) x = (false, out ++ [x]) := by simp [pf, e1, e2]
      rw [this, pf_fold e c _ (ris_cons.1 h).2]
      have a : lows e.1 (x :: c) = x :: lows e.1 c := by simp [lows, hx]
      have d : highs e.1 (x :: c) = highs e.1 c := List.filter_cons_of_neg (by simp; omega)
      simp [putS, a, d]
    · obtain ⟨p, q, r⟩ := all_high (n := e.1) (c := c) fun y hy => by have := h1 y hy; omega
      have e1 : (x.1 != e.1) = false := by simp [hx]
      have e2 : decide (x.1 ≥ e.1) = true := by simp; omega
      have : pf e (false, out) x = (true, out ++ [e]) := by simp [pf, e1, e2]
      rw [this, pf_done e c _ fun y hy => by have := h1 y hy; omega]
      have a : lows e.1 (x :: c) = lows e.1 c := List.filter_cons_of_neg (by simp; omega)
      have d : highs e.1 (x :: c) = highs e.1 c := List.filter_cons_of_neg (by simp; omega)
      simp [putS, a, d, p, r]
    · obtain ⟨p, q, r⟩ := all_high (n := e.1) (c := x :: c) fun y hy => by
        rcases List.mem_cons.1 hy with rfl | hy
        · exact hx
        · have := h1 y hy; omega
      have e1 : (x.1 != e.1) = true := by simp; omega
      have e2 : decide (x.1 ≥ e.1) = true := by simp; omega
      have : pf e (false, out) x = (true, out ++ [e] ++ [x]) := by simp [pf, e1, e2]
      rw [this, pf_done e c _ fun y hy => by have := h1 y hy; omega]
      simp [putS, p, r]
theorem putR_eq (c : List Elem) (e : Elem) (h : Ris c) : putR c e = putS c e := by
  have := pf_fold e c [] h
  simpa [putR] using this
theorem rPut_law (c : List Elem) (e : Elem) (K : List Elem → Prop) (hs : Ris c) (hc : c.length ≤ 1000000) (h : K (putS c e)) : r09.Put c e K :=
  Put_law c e K hc (by rw [putR_eq c e hs]; exact h)

/-- Some elements, put together. -/
def risL (l : List Elem) : List Elem := l.foldl putS []
theorem ris_fold : ∀ (l c : List Elem), Ris c → Ris (l.foldl putS c) ∧ (l.foldl putS c).length ≤ c.length + l.length
  | [], c, h => ⟨h, by simp⟩
  | x :: l, c, h => by
    rw [List.foldl_cons]
    have := ris_fold l (putS c x) (put_ris x h)
    have := put_len c x
    refine ⟨(ris_fold l (putS c x) (put_ris x h)).1, ?_⟩
    simp only [List.length_cons]; omega
theorem risL_ris (l : List Elem) : Ris (risL l) := (ris_fold l [] List.Pairwise.nil).1
theorem risL_len (l : List Elem) : (risL l).length ≤ l.length := by have := (ris_fold l [] List.Pairwise.nil).2; simpa [risL] using this

/-! Drop. -/
theorem rDrop_loop (c : List Elem) (id : Int) (K0 : List Elem → Prop) (hc : c.length ≤ 1000000) : ∀ (k i : Nat) (out : List Elem) (n : Nat), i + k = c.length → k < n → out.length ≤ i →
    K0 (out ++ dropS (c.drop i) id) → r09.Drop.l3 K0 n c id (i : Int) out
  | 0, i, out, n, hi, hn, ho, h => by
    obtain ⟨n, rfl⟩ : ∃ m, n = m + 1 := ⟨n - 1, by omega⟩
    simp only [r09.Drop.l3]
    rw [lt_false (by omega), br_false]
    rw [List.drop_eq_nil_of_le (by omega)] at h
    simpa [dropS] using h
  | k + 1, i, out, n, hi, hn, ho, h => by
    obtain ⟨n, rfl⟩ : ∃ m, n = m + 1 := ⟨n - 1, by omega⟩
    have hlt : i < c.length := by omega
    rw [List.drop_eq_getElem_cons hlt] at h
    simp only [r09.Drop.l3, r09.Drop.j59]
    rw [lt_true hlt, br_true, ix_nat _ _ _ hlt, wrap_succ i (by omega)]
    refine ⟨⟨by omega, by omega⟩, ?_⟩
    by_cases hx : c[i].1 = id
    · have e1 : (c[i].1 != id) = false := by simp [hx]
      have e2 : dropS (c[i] :: c.drop (i + 1)) id = dropS (c.drop (i + 1)) id := List.filter_cons_of_neg (by simp [hx])
      rw [e1, br_false]
      rw [e2] at h
      exact rDrop_loop c id K0 hc k (i + 1) _ n (by omega) (by omega) (by omega) h
    · have e1 : (c[i].1 != id) = true := by simp [hx]
      have e2 : dropS (c[i] :: c.drop (i + 1)) id = c[i] :: dropS (c.drop (i + 1)) id := List.filter_cons_of_pos (by simp [hx])
      rw [e1, br_true]
      rw [e2] at h
      refine ⟨⟨by omega, by omega⟩, ⟨by simp; omega, by simp; omega⟩, ?_⟩
      exact rDrop_loop c id K0 hc k (i + 1) _ n (by omega) (by omega) (by simp; omega) (by simpa using h)
theorem rDrop_law (c : List Elem) (id : Int) (K : List Elem → Prop) (hc : c.length ≤ 1000000) (h : K (dropS c id)) : r09.Drop c id K :=
  ⟨c.length + 1, rDrop_loop c id K hc c.length 0 [] _ (by omega) (by omega) (by simp) (by simpa using h)⟩

/-! Find. -/
def fidx (n : Int) : List Elem → Nat → Int
  | [], _ => -1
  | x :: r, i => if x.1 = n then (i : Int) else fidx n r (i + 1)
theorem fidx_spec (n : Int) : ∀ (c : List Elem) (i : Nat), (fidx n c i = -1 ∧ here n c = []) ∨ ∃ (a : Nat) (h : a < c.length), fidx n c i = ((i + a : Nat) : Int) ∧ findS c n = c[a] ∧ c[a].1 = n ∧ hasN n c = true
  | [], i => .inl ⟨rfl, rfl⟩
  | x :: r, i => by
    by_cases hx : x.1 = n
    · refine .inr ⟨0, by simp, by simp [fidx, hx], ?_, by simpa using hx, ?_⟩
      · simp [findS, here, hx]
      · simp [hasN, here, hx]
    · have hh : here n (x :: r) = here n r := List.filter_cons_of_neg (by simpa using hx)
      rcases fidx_spec n r (i + 1) with ⟨h1, h2⟩ | ⟨a, ha, h1, h2, h3, h4⟩
      · exact .inl ⟨by simp [fidx, hx, h1], by rw [hh, h2]⟩
      · refine .inr ⟨a + 1, by simpa using ha, ?_, ?_, by simpa using h3, ?_⟩
        · simp only [fidx, hx, if_false, h1]; omega
        · simpa [findS, hh] using h2
        · simpa [hasN, hh] using h4
theorem rFind_loop (c : List Elem) (id : Int) (K : Int → Prop) (hc : c.length ≤ 1000000) : ∀ (k i : Nat) (n : Nat), i + k = c.length → k < n →
    K (fidx id (c.drop i) i) → r09.Find.l2 K (K (-(1 : Int))) n c id (i : Int)
  | 0, i, n, hi, hn, h => by
    obtain ⟨n, rfl⟩ : ∃ m, n = m + 1 := ⟨n - 1, by omega⟩
    simp only [r09.Find.l2]
    rw [lt_false (by omega), br_false]
    rw [List.drop_eq_nil_of_le (by omega)] at h
    exact h
  | k + 1, i, n, hi, hn, h => by
    obtain ⟨n, rfl⟩ : ∃ m, n = m + 1 := ⟨n - 1, by omega⟩
    have hlt : i < c.length := by omega
    rw [List.drop_eq_getElem_cons hlt] at h
    simp only [r09.Find.l2]
    rw [lt_true hlt, br_true, ix_nat _ _ _ hlt, wrap_succ i (by omega)]
    refine ⟨⟨by omega, by omega⟩, ?_⟩
    by_cases hx : c[i].1 = id
    · have e1 : (c[i].1 == id) = true := by simp [hx]
      rw [e1, br_true]
      simpa [fidx, hx] using h
    · have e1 : (c[i].1 == id) = false := by simp [hx]
      rw [e1, br_false]
      simp only [fidx, hx, if_false] at h
      exact rFind_loop c id K hc k (i + 1) n (by omega) (by omega) h
theorem rFind_law (c : List Elem) (id : Int) (K : Int → Prop) (hc : c.length ≤ 1000000) (h : K (fidx id c 0)) : r09.Find c id K :=
  ⟨c.length + 1, rFind_loop c id K hc c.length 0 _ (by omega) (by omega) (by simpa using h)⟩

/-! Same. -/
theorem eqT_iff (a b : Elem) : eqT tElem a b = true ↔ a = b := by
  obtain ⟨a1, a2, a3, a4, a5, a6, a7, a8, a9, a10, _⟩ := a
  obtain ⟨b1, b2, b3, b4, b5, b6, b7, b8, b9, b10, _⟩ := b
  simp [eqT, ba_beq]
instance decElem : DecidableEq Elem := fun a b => decidable_of_iff _ (eqT_iff a b)
theorem eqT_elem (a b : Elem) : eqT tElem a b = decide (a = b) := by
  rw [Bool.eq_iff_iff, eqT_iff]; simp
theorem same_loop (a b : List Elem) (K : Bool → Prop) (hc : a.length ≤ 1000000) (hl : a.length = b.length) (h : K (decide (a = b))) : ∀ (k i : Nat) (n : Nat), i + k = a.length → k < n →
    a.take i = b.take i → r09.Same.l4 K (K true) n a b (i : Int)
  | 0, i, n, hi, hn, he => by
    obtain ⟨n, rfl⟩ : ∃ m, n = m + 1 := ⟨n - 1, by omega⟩
    simp only [r09.Same.l4]
    rw [lt_false (by omega), br_false]
    rw [List.take_of_length_le (by omega), List.take_of_length_le (by omega)] at he
    rw [decide_eq_true he] at h; exact h
  | k + 1, i, n, hi, hn, he => by
    obtain ⟨n, rfl⟩ : ∃ m, n = m + 1 := ⟨n - 1, by omega⟩
    have hlt : i < a.length := by omega
    have hlt' : i < b.length := by omega
    simp only [r09.Same.l4]
    rw [lt_true hlt, br_true, ix_nat _ _ _ hlt, ix_nat _ _ _ hlt', wrap_succ i (by omega), eqT_elem]
    refine ⟨⟨by omega, by omega⟩, ⟨by omega, by omega⟩, ?_⟩
    by_cases hx : a[i] = b[i]
    · rw [decide_eq_true hx, Bool.not_true, br_false]
      refine same_loop a b K hc hl h k (i + 1) n (by omega) (by omega) ?_
      rw [List.take_succ_eq_append_getElem hlt, List.take_succ_eq_append_getElem hlt', he, hx]
    · rw [decide_eq_false hx, Bool.not_false, br_true]
      have : ¬ a = b := fun e => hx (by subst e; rfl)
      rw [decide_eq_false this] at h; exact h
theorem same_law (a b : List Elem) (K : Bool → Prop) (hc : a.length ≤ 1000000) (h : K (decide (a = b))) : r09.Same a b K := by
  unfold r09.Same
  by_cases hl : a.length = b.length
  · have e : ((((List.length a) : Nat) : Int) != (((List.length b) : Nat) : Int)) = false := by simp [hl]
    rw [e, br_false]
    exact ⟨a.length + 1, same_loop a b K hc hl h a.length 0 _ (by omega) (by omega) rfl⟩
  · have e : ((((List.length a) : Nat) : Int) != (((List.length b) : Nat) : Int)) = true := by simp; omega
    rw [e, br_true]
    have : ¬ a = b := fun e => hl (by rw [e])
    rw [decide_eq_false this] at h; exact h
end Go.Iw
