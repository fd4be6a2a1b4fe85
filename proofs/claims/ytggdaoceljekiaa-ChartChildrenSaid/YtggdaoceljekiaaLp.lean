/- Plain laws: an element put into a list, and a list of such. -/
import Derived.Test.YtggdaoceljekiaaLa
namespace Go.Iw
open Go.Iv
set_option linter.unusedVariables false
set_option linter.unusedSimpArgs false

theorem ix_nat {α : Type} (z : α) (c : List α) (i : Nat) (h : i < c.length) : ix z c (i : Int) = c[i] := by
  simp [ix, List.getD_eq_getElem?_getD, List.getElem?_eq_getElem h]
theorem wrap_succ (i : Nat) (h : i < 9223372036854775807) : IntKind.wrap .i64 ((i : Int) + 1) = ((i + 1 : Nat) : Int) := by
  rw [wrap_small (by omega) (by omega)]; omega

/-- One round. -/
def pf (e : Elem) (s : Bool × List Elem) (x : Elem) : Bool × List Elem :=
  let s1 : Bool × List Elem := bif !s.1 && decide (x.1 ≥ e.1) then (true, s.2 ++ [e]) else s
  bif x.1 != e.1 then (s1.1, s1.2 ++ [x]) else s1
/-- The document's Put. -/
def putR (c : List Elem) (e : Elem) : List Elem :=
  let s := c.foldl (pf e) (false, [])
  bif s.1 then s.2 else s.2 ++ [e]

section
variable (K : (List Elem) → Bool → Int → Elem → (List Elem) → Prop) (c : List Elem) (i : Nat) (hi : i < c.length) (e : Elem)

theorem j37_law (done : Bool) (out : List Elem) (hc : c.length ≤ 1000000) (ho : out.length ≤ 2 * i + 1) (h : K c done ((i + 1 : Nat) : Int) e (bif c[i].1 != e.1 then out ++ [c[i]] else out)) : r09.Put.j37 K c done i e out := by
  unfold r09.Put.j37 r09.Put.j20 r09.Put.j91
  refine ⟨⟨by omega, by omega⟩, ?_⟩
  rw [ix_nat _ _ _ hi, wrap_succ i (by omega)]
  revert h
  cases c[i].1 != e.1 with
  | true =>
    intro h
    rw [br_true]
    refine ⟨⟨by omega, by omega⟩, ⟨by simp; omega, by simp; omega⟩, h⟩
  | false =>
    intro h
    rw [br_false]; exact h

theorem j14_law (done b : Bool) (out : List Elem) (hc : c.length ≤ 1000000) (ho : out.length ≤ 2 * i)
    (h : K c (b || done) ((i + 1 : Nat) : Int) e (bif c[i].1 != e.1 then (bif b then out ++ [e] else out) ++ [c[i]] else (bif b then out ++ [e] else out))) : r09.Put.j14 K c done i b e out := by
  unfold r09.Put.j14
  cases b with
  | true =>
    rw [br_true]
    exact ⟨⟨by simp; omega, by simp; omega⟩, j37_law _ c i hi e true _ hc (by simp; omega) h⟩
  | false =>
    rw [br_false]
    exact j37_law _ c i hi e done _ hc (by omega) h
end

theorem put_loop (c : List Elem) (e : Elem) (K0 : Bool → Elem → (List Elem) → Prop) (hc : c.length ≤ 1000000) : ∀ (k i : Nat) (done : Bool) (out : List Elem) (n : Nat), i + k = c.length → k < n → out.length ≤ 2 * i →
    K0 ((c.drop i).foldl (pf e) (done, out)).1 e ((c.drop i).foldl (pf e) (done, out)).2 → r09.Put.l4 K0 n c done (i : Int) e out
  | 0, i, done, out, n, hi, hn, ho, h => by
    obtain ⟨n, rfl⟩ : ∃ m, n = m + 1 := ⟨n - 1, by omega⟩
    simp only [r09.Put.l4]
    have : decide ((i : Int) < ((c.length : Nat) : Int)) = false := by simp; omega
    rw [this, br_false]
    rw [List.drop_eq_nil_of_le (by omega)] at h
    exact h
  | k + 1, i, done, out, n, hi, hn, ho, h => by
    obtain ⟨n, rfl⟩ : ∃ m, n = m + 1 := ⟨n - 1, by omega⟩
    have hlt : i < c.length := by omega
    have hd : c.drop i = c[i] :: c.drop (i + 1) := List.drop_eq_getElem_cons hlt
    rw [hd, List.foldl_cons] at h
    simp only [r09.Put.l4]
    have : decide ((i : Int) < ((c.length : Nat) : Int)) = true := by simp; omega
    rw [this, br_true, ix_nat _ _ _ hlt]
    have go : ∀ b : Bool, b = (!done && decide (c[i].1 ≥ e.1)) → r09.Put.j14 (fun a b c d e => r09.Put.l4 K0 n a b c d e) c done i b e out := by
      intro b hb
      refine j14_law _ c i hlt e done b out hc ho ?_
      have hs : pf e (done, out) c[i] = (b || done, bif c[i].1 != e.1 then (bif b then out ++ [e] else out) ++ [c[i]] else (bif b then out ++ [e] else out)) := by
        simp only [pf, ← hb]
        cases b <;> cases c[i].1 != e.1 <;> simp
      rw [hs] at h
      refine put_loop c e K0 hc k (i + 1) _ _ n (by omega) (by omega) ?_ h
      cases b <;> cases c[i].1 != e.1 <;> simp <;> omega
    cases done with
    | false =>
      rw [Bool.not_false, br_true]
      exact ⟨⟨by omega, by omega⟩, go _ (by simp)⟩
    | true =>
      rw [Bool.not_true, br_false]
      exact go _ (by simp)

/-- How long it may be. -/
theorem pf_len (e : Elem) : ∀ (c : List Elem) (s : Bool × List Elem), (c.foldl (pf e) s).2.length + (bif s.1 then 1 else 0) ≤ s.2.length + c.length + (bif (c.foldl (pf e) s).1 then 1 else 0)
  | [], s => by simp
  | x :: c, s => by
    rw [List.foldl_cons]
    have := pf_len e c (pf e s x)
    have h2 : (pf e s x).2.length + (bif s.1 then 1 else 0) ≤ s.2.length + 1 + (bif (pf e s x).1 then 1 else 0) := by
      obtain ⟨d, o⟩ := s
      simp only [pf]
      cases d <;> cases decide (x.1 ≥ e.1) <;> cases x.1 != e.1 <;> simp <;> omega
    simp only [List.length_cons]
    omega
theorem putR_len (c : List Elem) (e : Elem) : (putR c e).length ≤ c.length + 1 := by
  have := pf_len e c (false, [])
  simp only [putR]
  revert this
  cases (c.foldl (pf e) (false, [])).1 <;> simp <;> omega

theorem Put_law (c : List Elem) (e : Elem) (K : List Elem → Prop) (hc : c.length ≤ 1000000) (h : K (putR c e)) : r09.Put c e K := by
  refine ⟨c.length + 1, put_loop c e _ hc c.length 0 false [] _ (by omega) (by omega) (by simp) ?_⟩
  rw [List.drop_zero]
  have hl := pf_len e c (false, [])
  simp only [putR] at h
  revert h hl
  cases (c.foldl (pf e) (false, [])).1 with
  | true => intro h _; exact h
  | false =>
    intro h hl
    simp at hl
    rw [Bool.not_false, br_true]
    exact ⟨⟨by simp; omega, by simp; omega⟩, h⟩

/-- Some elements, put together. -/
def risL (l : List Elem) : List Elem := l.foldl putR []

theorem ris_loop (l : List Elem) (K0 : List Elem → Prop) (hl : l.length ≤ 100000) : ∀ (k i : Nat) (c : List Elem) (n : Nat), i + k = l.length → k < n → c.length ≤ i → K0 ((l.drop i).foldl putR c) → law09.rising.l3 K0 n l (i : Int) c
  | 0, i, c, n, hi, hn, hcl, h => by
    obtain ⟨n, rfl⟩ : ∃ m, n = m + 1 := ⟨n - 1, by omega⟩
    simp only [law09.rising.l3]
    have : decide ((i : Int) < ((l.length : Nat) : Int)) = false := by simp; omega
    rw [this, br_false]
    rw [List.drop_eq_nil_of_le (by omega)] at h
    exact h
  | k + 1, i, c, n, hi, hn, hcl, h => by
    obtain ⟨n, rfl⟩ : ∃ m, n = m + 1 := ⟨n - 1, by omega⟩
    have hlt : i < l.length := by omega
    rw [List.drop_eq_getElem_cons hlt, List.foldl_cons] at h
    simp only [law09.rising.l3]
    have : decide ((i : Int) < ((l.length : Nat) : Int)) = true := by simp; omega
    rw [this, br_true, ix_nat _ _ _ hlt, wrap_succ i (by omega)]
    refine ⟨⟨by omega, by omega⟩, Put_law _ _ _ (by omega) ?_⟩
    exact ris_loop l K0 hl k (i + 1) _ n (by omega) (by omega) (Nat.le_trans (putR_len _ _) (by omega)) h
theorem ris_len : ∀ (l c : List Elem), (l.foldl putR c).length ≤ c.length + l.length
  | [], c => by simp
  | x :: l, c => by
    rw [List.foldl_cons]
    have := ris_len l (putR c x)
    have := putR_len c x
    simp only [List.length_cons]; omega
theorem risL_len (l : List Elem) : (risL l).length ≤ l.length := by have := ris_len l []; simpa [risL] using this
theorem rising_law (l : List Elem) (K : List Elem → Prop) (hl : l.length ≤ 100000) (h : K (risL l)) : law09.rising l K :=
  ⟨l.length + 1, ris_loop l _ hl l.length 0 [] _ (by omega) (by omega) (by simp) (by rw [List.drop_zero]; exact h)⟩
end Go.Iw
