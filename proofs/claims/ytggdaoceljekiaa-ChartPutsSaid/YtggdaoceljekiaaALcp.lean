/- ChartPuts: the plain law. -/
import Derived.Test.YtggdaoceljekiaaAQ2
namespace Go.Iw
open Go.Iv
set_option linter.unusedVariables false
set_option linter.unusedSimpArgs false

theorem awake09_law (K : Bool → Prop) (h : K true) : law09.awake K := by
  unfold law09.awake
  refine cPut_law _ _ _ (by simp [Ris]) (by simp) ?_
  have w1 : IntKind.wrap .i64 1 = 1 := rfl
  simp [putS, lows, highs, ix, h]

theorem ris_loop (l : List Elem) (K0 : List Elem → Prop) (hl : l.length ≤ 100000) : ∀ (k i : Nat) (c : List Elem) (n : Nat), i + k = l.length → k < n → c.length ≤ i → Ris c → K0 ((l.drop i).foldl putS c) → law09.rising.l3 K0 n l (i : Int) c
  | 0, i, c, n, hi, hn, hcl, hs, h => by
    obtain ⟨n, rfl⟩ : ∃ m, n = m + 1 := ⟨n - 1, by omega⟩
    simp only [law09.rising.l3]
    rw [lt_false (by omega), br_false]
    rw [List.drop_eq_nil_of_le (by omega)] at h
    exact h
  | k + 1, i, c, n, hi, hn, hcl, hs, h => by
    obtain ⟨n, rfl⟩ : ∃ m, n = m + 1 := ⟨n - 1, by omega⟩
    have hlt : i < l.length := by omega
    rw [List.drop_eq_getElem_cons hlt, List.foldl_cons] at h
    simp only [law09.rising.l3]
    rw [lt_true hlt, br_true, ix_nat _ _ _ hlt, wrap_succ i (by omega)]
    refine ⟨⟨by omega, by omega⟩, rPut_law _ _ _ hs (by omega) ?_⟩
    exact ris_loop l K0 hl k (i + 1) _ n (by omega) (by omega) (Nat.le_trans (put_len _ _) (by omega)) (put_ris _ hs) h
theorem rising09_law (l : List Elem) (K : List Elem → Prop) (hl : l.length ≤ 100000) (h : K (risL l)) : law09.rising l K :=
  ⟨l.length + 1, ris_loop l _ hl l.length 0 [] _ (by omega) (by omega) (by simp) List.Pairwise.nil (by rw [List.drop_zero]; exact h)⟩

theorem puts_j26 (K0 : Bool → Prop) (c : List Elem) (e : Elem) (hs : Ris c) (hc : c.length ≤ 30) (h : K0 true) :
    law09.ChartPuts.j26 K0 c true false e c (putS c e) e (dropS c e.1) := by
  unfold law09.ChartPuts.j26
  have hp := put_len c e
  have hd := drop_len c e.1
  rw [br_false, br_true, eqT_elem, decide_eq_true rfl, br_true]
  refine rPut_law _ _ _ hs (by omega) (same_law _ _ _ (by omega) ?_)
  rw [decide_eq_true rfl, br_true]
  refine rDrop_law _ _ _ (by omega) (same_law _ _ _ (by omega) ?_)
  rw [decide_eq_true rfl, br_true]
  refine same_law _ _ _ (by omega) ?_
  rw [decide_eq_true rfl, br_true]
  refine cRising_law _ _ (by omega) ?_
  rw [decide_eq_true (put_ris e hs), br_true]
  refine cRising_law _ _ (by omega) ?_
  rw [decide_eq_true (drop_ris e.1 hs)]
  exact h

theorem puts_j25 (K0 : Bool → Prop) (c : List Elem) (e : Elem) (hs : Ris c) (hc : c.length ≤ 30) (h : K0 true) : law09.ChartPuts.j25 K0 e c := by
  unfold law09.ChartPuts.j25
  have hp := put_len c e
  refine ⟨⟨by omega, by omega⟩, ?_⟩
  refine cPut_law _ _ _ hs (by omega) ?_
  refine cFind_law _ _ _ (put_ris e hs) (by omega) ?_
  have e1 : findS (putS c e) e.1 = e := by simp [findS, here_put]
  have e2 : hasN e.1 (putS c e) = true := by simp [hasN, here_put]
  rw [e1, e2]
  refine cFind_law _ _ _ hs (by omega) (rFind_law _ _ _ (by omega) (cDrop_law _ _ _ hs (by omega) ?_))
  have g := puts_j26 K0 c e hs hc h
  rcases fidx_spec e.1 c 0 with ⟨h1, h2⟩ | ⟨a, ha, h1, h2, h3, h4⟩
  · have e3 : hasN e.1 c = false := by simp [hasN, h2]
    have e4 : findS c e.1 = Elem.z := by simp [findS, h2]
    rw [h1, e3, e4]
    have e5 : (!(eqT .bool false (decide ((-1 : Int) ≥ (0 : Int))))) = false := rfl
    rw [e5, br_false, br_false, Bool.not_false, br_true]
    have e6 : (!(eqT tElem Elem.z ((0 : Int), ((0 : Int), ((0 : Int), ((0 : Int), (noStr, ((0 : Int), ((0 : Int), (noStr, (noStr, (noStr, ())))))))))))) = false := by
      rw [eqT_elem]; simp [Elem.z]
    rw [e6]; exact g
  · rw [h1, h4, h2]
    have e5 : (!(eqT .bool true (decide ((((0 + a : Nat) : Int)) ≥ (0 : Int))))) = false := by
      rw [decide_eq_true (by omega)]; rfl
    rw [e5, br_false, br_true]
    refine ⟨⟨by omega, by omega⟩, ?_⟩
    rw [ix_nat _ _ _ (by omega : 0 + a < c.length), eqT_elem]
    have e6 : (!(decide (c[a] = c[0 + a]))) = false := by simp
    rw [e6, br_false, Bool.not_true, br_false]
    exact g

theorem puts_j10 (K0 : Bool → Prop) (c : List Elem) (e : Elem) (at_ : Int) (hs : Ris c) (hc : c.length ≤ 30) (hat : 0 ≤ at_ ∧ at_ ≤ 255) (b : Bool) (hb : b = true → 0 < c.length) (h : K0 true) :
    law09.ChartPuts.j10 K0 at_ b e c := by
  unfold law09.ChartPuts.j10
  cases b with
  | false => rw [br_false]; exact puts_j25 K0 c e hs hc h
  | true =>
    have hpos := hb rfl
    rw [br_true, wrap_small (by omega) (by omega)]
    have t1 : 0 ≤ Int.tmod at_ (c.length : Int) := Int.tmod_nonneg _ hat.1
    have t2 : Int.tmod at_ (c.length : Int) < (c.length : Int) := Int.tmod_lt_of_pos _ (by omega)
    exact ⟨by omega, ⟨t1, t2⟩, by omega, puts_j25 K0 c _ hs hc h⟩

theorem chartPuts (by_ : Nat → Nat) (l : List Elem) (e : Elem) (at_ : Int) (there : Bool) (w0 : Wf by_ (.sl 23 tElem) l) (w1 : Wf by_ tElem e) (w2 : Wf by_ (.int .u8) at_) (w3 : Wf by_ .bool there) (K : Bool → Prop) (h : K true) : law09.ChartPuts l e at_ there K := by
  have hat : 0 ≤ at_ ∧ at_ ≤ 255 := w2
  unfold law09.ChartPuts law09.ChartPuts.j4
  refine awake09_law _ ?_
  rw [Bool.not_true, br_false]
  by_cases hl : l.length > 30
  · rw [decide_eq_true (by omega), br_true]
    exact awake09_law _ h
  · rw [decide_eq_false (by omega), br_false]
    refine rising09_law l _ (by omega) ?_
    have hc := risL_len l
    cases there with
    | true => rw [br_true]; exact puts_j10 _ _ e at_ (risL_ris l) (by omega) hat _ (fun h => by simpa using h) h
    | false => rw [br_false]; exact puts_j10 _ _ e at_ (risL_ris l) (by omega) hat _ (fun h => by cases h) h
end Go.Iw
