/- DiffOf: the plain law. -/
import Derived.Test.YtdlhckmdllfamaaCQ12
namespace Go.Iw
open Go.Iv
set_option linter.unusedVariables false
set_option linter.unusedSimpArgs false
theorem same13_loop (a : List Edit) (K : Bool → Prop) (ha : a.length ≤ 1000000) (h : K true) : ∀ (k i n : Nat), i + k = a.length → k < n → law13.same.l4 K (K true) n a a (i : Int)
  | 0, i, n, hi, hn => by
    obtain ⟨n, rfl⟩ : ∃ m, n = m + 1 := ⟨n - 1, by omega⟩
    simp only [law13.same.l4]
    rw [lt_false (by omega), br_false]; exact h
  | k + 1, i, n, hi, hn => by
    obtain ⟨n, rfl⟩ : ∃ m, n = m + 1 := ⟨n - 1, by omega⟩
    have hlt : i < a.length := by omega
    simp only [law13.same.l4]
    rw [lt_true hlt, br_true, ix_nat _ _ _ hlt, wrap_succ i (by omega), (eqE_iff a[i] a[i]).2 rfl]
    exact ⟨⟨by omega, by omega⟩, ⟨by omega, by omega⟩, same13_loop a K ha h k (i + 1) n (by omega) (by omega)⟩
theorem same13_law (a : List Edit) (K : Bool → Prop) (ha : a.length ≤ 1000000) (h : K true) : law13.same a a K := by
  unfold law13.same
  rw [show ((((List.length a) : Nat) : Int) != (((List.length a) : Nat) : Int)) = false from by simp, br_false]
  exact ⟨a.length + 1, same13_loop a K ha h a.length 0 _ (by omega) (by omega)⟩
abbrev e13 : Elem := ((1 : Int), ((1 : Int), ((0 : Int), ((0 : Int), (noStr, ((0 : Int), ((0 : Int), (noStr, (noStr, (noStr, ()))))))))))
instance decEdit : DecidableEq Edit := fun a b => decidable_of_iff _ (eqE_iff a b)
theorem aw13 : diffS [] [e13] = ([addE e13], 0) := by decide +kernel
theorem awake13_law (K : Bool → Prop) (h : K true) : law13.awake K := by
  unfold law13.awake
  refine diff_law _ _ _ (by simp) (by simp) ?_
  rw [show diffS [] [e13] = _ from aw13]
  exact ⟨⟨by decide, by decide⟩, by decide, h⟩
theorem diffOf_j131 (K : Bool → Prop) (x y : List Elem) (hx : x.length ≤ 1000) (hy : y.length ≤ 1000) (h : K true) : law13.DiffOf.j131 K x y := by
  unfold law13.DiffOf.j131
  refine diff_law _ _ _ hx hy (rdiff_law _ _ _ hx hy ?_)
  rw [show ((diffS x y).2 == (diffS x y).2) = true from by simp, br_true]
  have := diff_len x y
  exact same13_law _ _ (by omega) h
theorem diffOf_l7 (l : List Elem) (how : Int) (x y : List Elem) (K0 : (List Elem) → Int → (List Elem) → (List Elem) → (List Elem) → Prop) (hl : l.length ≤ 1000) (h : ∀ z : List Elem, z.length ≤ 1000 → K0 l how x y z) :
    ∀ (k i : Nat) (z : List Elem) (n : Nat), i + k = l.length → k < n → z.length ≤ i → Ris z → law13.DiffOf.l7 K0 n l how x y (i : Int) z
  | 0, i, z, n, hi, hn, hz, hs => by
    obtain ⟨n, rfl⟩ : ∃ m, n = m + 1 := ⟨n - 1, by omega⟩
    simp only [law13.DiffOf.l7]
    rw [lt_false (by omega), br_false]; exact h z (by omega)
  | k + 1, i, z, n, hi, hn, hz, hs => by
    obtain ⟨n, rfl⟩ : ∃ m, n = m + 1 := ⟨n - 1, by omega⟩
    have hlt : i < l.length := by omega
    simp only [law13.DiffOf.l7]
    rw [lt_true hlt, br_true, wrap_succ i (by omega)]
    refine ⟨⟨by omega, by omega⟩, by omega, by omega, rPut_law _ _ _ hs (by omega) ?_⟩
    exact diffOf_l7 l how x y K0 hl h k (i + 1) _ n (by omega) (by omega) (Nat.le_trans (put_len _ _) (by omega)) (put_ris _ hs)
theorem diffOf (by_ : Nat → Nat) (a b : List Act) (l : List Elem) (how : Int) (w0 : Wf by_ (.sl 70 tAct) a) (w1 : Wf by_ (.sl 70 tAct) b) (w2 : Wf by_ (.sl 29 tElem) l) (w3 : Wf by_ (.int .u8) how) (K : Bool → Prop) (h : K true) : law13.DiffOf a b l how K := by
  have hb : ∀ x : Act, x ∈ b → ActOk x := fun x hx => (w1.1 x hx).2.1
  have gate : ∀ t : Bool, (t = false → a.length ≤ 24 ∧ b.length ≤ 24 ∧ l.length ≤ 20) → law13.DiffOf.j4 K a b l how t := fun t ht => by
    unfold law13.DiffOf.j4
    cases t with
    | true => rw [br_true]; exact awake13_law _ h
    | false =>
      rw [br_false]
      obtain ⟨h1, h2, h3⟩ := ht rfl
      refine make_law _ _ (by omega) fun x hx hxl => change_law _ _ _ (by omega) hb hx fun y hy => ?_
      have hyl := kp_len hy
      refine ⟨l.length + 1, diffOf_l7 l how x y _ (by omega) (fun z hz => ?_) l.length 0 [] _ (by omega) (by omega) (by simp) List.Pairwise.nil⟩
      refine ⟨by omega, br_any (diffOf_j131 K x z (by omega) hz h) (br_any (diffOf_j131 K z y hz (by omega) h) (br_any (diffOf_j131 K x l (by omega) (by omega) h) (diffOf_j131 K x y (by omega) (by omega) h)))⟩
  unfold law13.DiffOf
  refine awake13_law _ ?_
  rw [Bool.not_true, br_false]
  by_cases h1 : a.length > 24
  · rw [decide_eq_true (by omega), br_true]
    exact gate true fun h => by cases h
  rw [decide_eq_false (by omega), br_false]
  by_cases h2 : b.length > 24
  · rw [decide_eq_true (by omega), br_true]
    exact gate true fun h => by cases h
  rw [decide_eq_false (by omega), br_false]
  refine gate _ fun hb => ⟨by omega, by omega, ?_⟩
  have := of_decide_eq_false hb
  omega
end Go.Iw
