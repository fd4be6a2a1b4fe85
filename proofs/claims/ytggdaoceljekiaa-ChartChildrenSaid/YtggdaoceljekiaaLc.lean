/- ChartChildren: the plain law. -/
import Derived.Test.YtggdaoceljekiaaLp
namespace Go.Iw
open Go.Iv
set_option linter.unusedVariables false
set_option linter.unusedSimpArgs false

/-- The numbers of what stands in an element. -/
def kids (id : Int) (c : List Elem) : List Int := (c.filter fun x => x.2.2.1 == id).map (·.1)
theorem kids_nil (id : Int) : kids id [] = [] := rfl
theorem kids_cons (id : Int) (x : Elem) (c : List Elem) : kids id (x :: c) = if x.2.2.1 == id then x.1 :: kids id c else kids id c := by
  simp only [kids, List.filter_cons]
  split <;> simp
theorem kids_len (id : Int) (c : List Elem) : (kids id c).length ≤ c.length := by
  simp only [kids, List.length_map]; exact List.length_filter_le ..
theorem kids_append (id : Int) (c d : List Elem) : kids id (c ++ d) = kids id c ++ kids id d := by simp [kids]

theorem kids_loop (id : Int) (c : List Elem) (K0 : List Int → Prop) (hc : c.length ≤ 1000000) : ∀ (k i : Nat) (out : List Int) (n : Nat), i + k = c.length → k < n → out.length ≤ i → K0 (out ++ kids id (c.drop i)) → chart.Children.l3 K0 n id c (((c.length) : Nat) : Int) (i : Int) out
  | 0, i, out, n, hi, hn, ho, h => by
    obtain ⟨n, rfl⟩ : ∃ m, n = m + 1 := ⟨n - 1, by omega⟩
    simp only [chart.Children.l3]
    have : decide ((i : Int) < ((c.length : Nat) : Int)) = false := by simp; omega
    rw [this, br_false]
    rw [List.drop_eq_nil_of_le (by omega), kids_nil, List.append_nil] at h
    exact h
  | k + 1, i, out, n, hi, hn, ho, h => by
    obtain ⟨n, rfl⟩ : ∃ m, n = m + 1 := ⟨n - 1, by omega⟩
    have hlt : i < c.length := by omega
    rw [List.drop_eq_getElem_cons hlt, kids_cons] at h
    simp only [chart.Children.l3, chart.Children.j59]
    have : decide ((i : Int) < ((c.length : Nat) : Int)) = true := by simp; omega
    rw [this, br_true, ix_nat _ _ _ hlt, wrap_succ i (by omega)]
    refine ⟨⟨by omega, by omega⟩, ?_⟩
    revert h
    cases hb : c[i].2.2.1 == id with
    | true =>
      intro h
      rw [br_true]
      refine ⟨⟨by simp; omega, by simp; omega⟩, kids_loop id c K0 hc k (i + 1) _ n (by omega) (by omega) (by simp; omega) ?_⟩
      simpa using h
    | false =>
      intro h
      rw [br_false]
      exact kids_loop id c K0 hc k (i + 1) _ n (by omega) (by omega) (by omega) (by simpa using h)
theorem Children_law (c : List Elem) (id : Int) (K : List Int → Prop) (hc : c.length ≤ 1000000) (h : K (kids id c)) : chart.Children c id K :=
  ⟨c.length + 1, kids_loop id c _ hc c.length 0 [] _ (by omega) (by omega) (by simp) (by simpa using h)⟩

theorem cmp_loop (id : Int) (c : List Elem) (got : List Int) (K0 : Bool → Prop) (K1 : Int → List Int → Prop) (hc : c.length ≤ 1000000) (hg : got = kids id c) (h : K1 (got.length : Int) got) :
    ∀ (k i : Nat) (n : Nat), i + k = c.length → k < n → law09.ChartChildren.l13 K0 K1 n id c (((kids id (c.take i)).length : Nat) : Int) (i : Int) got
  | 0, i, n, hi, hn => by
    obtain ⟨n, rfl⟩ : ∃ m, n = m + 1 := ⟨n - 1, by omega⟩
    simp only [law09.ChartChildren.l13]
    have : decide ((i : Int) < ((c.length : Nat) : Int)) = false := by simp; omega
    rw [this, br_false, List.take_of_length_le (by omega), ← hg]
    exact h
  | k + 1, i, n, hi, hn => by
    obtain ⟨n, rfl⟩ : ∃ m, n = m + 1 := ⟨n - 1, by omega⟩
    have hlt : i < c.length := by omega
    have ih := cmp_loop id c got K0 K1 hc hg h k (i + 1) n (by omega) (by omega)
    have ht : c.take (i + 1) = c.take i ++ [c[i]] := by rw [List.take_succ_eq_append_getElem hlt]
    have hcs : c = c.take i ++ (c[i] :: c.drop (i + 1)) := by rw [List.getElem_cons_drop]; exact (List.take_append_drop i c).symm
    have hgg : got = kids id (c.take i) ++ (if c[i].2.2.1 == id then c[i].1 :: kids id (c.drop (i + 1)) else kids id (c.drop (i + 1))) := by
      rw [hg]
      conv => lhs; rw [hcs]
      rw [kids_append, kids_cons]
    rw [ht, kids_append, kids_cons, kids_nil] at ih
    simp only [law09.ChartChildren.l13]
    have : decide ((i : Int) < ((c.length : Nat) : Int)) = true := by simp; omega
    rw [this, br_true, ix_nat _ _ _ hlt]
    refine ⟨⟨by omega, by omega⟩, ?_⟩
    cases hb : c[i].2.2.1 == id with
    | true =>
      rw [hb, if_pos rfl] at hgg ih
      rw [br_true]
      have hlen : (kids id (c.take i)).length < got.length := by rw [hgg]; simp
      have hl2 := kids_len id (c.take i)
      rw [List.length_take, Nat.min_eq_left (by omega)] at hl2
      have : decide ((((kids id (c.take i)).length : Nat) : Int) ≥ ((got.length : Nat) : Int)) = false := by simp; omega
      rw [this, br_false]
      refine ⟨⟨by omega, by omega⟩, ⟨by omega, by omega⟩, by omega, ?_⟩
      have hget : (got.getD ((((kids id (c.take i)).length : Nat) : Int).toNat) 0 != c[i].1) = false := by
        rw [Int.toNat_natCast, hgg]
        simp [List.getD_eq_getElem?_getD]
      unfold law09.ChartChildren.j34 law09.ChartChildren.j155
      rw [hget, br_false, wrap_succ i (by omega), wrap_succ _ (by omega)]
      simpa using ih
    | false =>
      rw [hb] at ih
      rw [br_false]
      unfold law09.ChartChildren.j155
      rw [wrap_succ i (by omega)]
      simpa using ih

theorem j41_law (K0 : Bool → Prop) (id : Int) (c : List Elem) (hc : c.length ≤ 1000000) (h : K0 true) : law09.ChartChildren.j41 K0 id c := by
  unfold law09.ChartChildren.j41
  refine Children_law _ _ _ hc ⟨c.length + 1, ?_⟩
  refine cmp_loop id c (kids id c) _ _ hc rfl ?_ c.length 0 _ (by omega) (by omega)
  simpa using h

theorem near_loop (id : Int) (K0 : Int → Bool → List Elem → Prop) (m : Nat) (hm : m ≤ 1000000) (h : ∀ c : List Elem, c.length = m → K0 id true c) : ∀ (k i : Nat) (c : List Elem) (n : Nat), c.length = m → i + k = m → k < n → law09.ChartChildren.l5 K0 n id true (i : Int) c
  | 0, i, c, n, hc, hi, hn => by
    obtain ⟨n, rfl⟩ : ∃ m, n = m + 1 := ⟨n - 1, by omega⟩
    simp only [law09.ChartChildren.l5, law09.ChartChildren.j12]
    have : decide ((i : Int) < ((c.length : Nat) : Int)) = false := by simp; omega
    rw [br_true, this, br_false]
    exact h c hc
  | k + 1, i, c, n, hc, hi, hn => by
    obtain ⟨n, rfl⟩ : ∃ m, n = m + 1 := ⟨n - 1, by omega⟩
    simp only [law09.ChartChildren.l5, law09.ChartChildren.j12]
    have : decide ((i : Int) < ((c.length : Nat) : Int)) = true := by simp; omega
    rw [br_true, this, br_true, wrap_succ i (by omega)]
    refine ⟨⟨by omega, by omega⟩, by omega, ⟨by omega, by omega⟩, by omega, ?_⟩
    exact near_loop id K0 m hm h k (i + 1) _ n (by simpa using hc) (by omega) (by omega)

theorem children (by_ : Nat → Nat) (l : List Elem) (id : Int) (near : Bool) (hw : Wf by_ (.sl 23 tElem) l) : law09.ChartChildren l id near (fun r => r = true) := by
  unfold law09.ChartChildren
  refine awake_true _ ?_
  rw [Bool.not_true, br_false]
  by_cases h30 : ((l.length : Nat) : Int) > 30
  · rw [decide_eq_true h30, br_true]
    exact awake_true _ rfl
  · rw [decide_eq_false h30, br_false]
    have hl : l.length ≤ 30 := by omega
    refine rising_law l _ (by omega) ?_
    have hr := risL_len l
    cases near with
    | true =>
      refine ⟨(risL l).length + 1, near_loop id _ (risL l).length (by omega) ?_ (risL l).length 0 _ _ rfl (by omega) (by omega)⟩
      intro c hc
      rw [br_true]
      exact j41_law _ _ _ (by omega) rfl
    | false =>
      refine ⟨1, ?_⟩
      simp only [law09.ChartChildren.l5, law09.ChartChildren.j12]
      rw [br_false, br_false, br_false]
      exact j41_law _ _ _ (by omega) rfl
end Go.Iw
