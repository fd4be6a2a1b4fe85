/- EditAll: the plain law. -/
import Derived.Test.YtdlhckmdllfamaaCQ5
namespace Go.Iw
open Go.Iv
set_option linter.unusedVariables false
set_option linter.unusedSimpArgs false
theorem op0 (c : List Elem) (x : Edit) (h : x.1 = 0) : (oneT c x).2 ≠ 0 := by
  unfold oneT
  split
  · have : rightS x = false := by unfold rightS; rw [if_neg (by omega), if_neg (by omega)]
    unfold oneS
    rw [if_pos this]; decide
  · decide
theorem applyS_bad : ∀ (l : List Edit) (c : List Elem) (i : Nat), (∃ x ∈ l, x.1 = 0) → (applyS c l i).2.2 ≠ 0 ∧ (applyS c l i).1 = []
  | [], c, i, h => by obtain ⟨x, hx, _⟩ := h; simp at hx
  | x :: r, c, i, h => by
    unfold applyS
    by_cases he : (oneT c x).2 = 0
    · rw [if_pos he]
      refine applyS_bad r _ _ ?_
      obtain ⟨y, hy, h0⟩ := h
      rcases List.mem_cons.1 hy with rfl | hy
      · exact (op0 c y h0 he).elim
      · exact ⟨y, hy, h0⟩
    · rw [if_neg he]; exact ⟨he, rfl⟩
theorem editAll_loop (x : List Edit) (q : Nat) (hq : q < x.length) (K0 : List Elem → List Edit → Prop) (c : List Elem) (hc : c.length ≤ 1000) (hx : x.length ≤ 1000) (h : ∀ y : List Edit, y.length = x.length → (∃ z ∈ y, z.1 = 0) → K0 c y) :
    ∀ (k i : Nat) (y : List Edit) (n : Nat), i + k = x.length → k < n → y.length = i → (q < i → ∃ z ∈ y, z.1 = 0) → law12.EditAll.l7 K0 n x (q : Int) (i : Int) c y
  | 0, i, y, n, hi, hn, hy, hz => by
    obtain ⟨n, rfl⟩ : ∃ m, n = m + 1 := ⟨n - 1, by omega⟩
    simp only [law12.EditAll.l7]
    rw [lt_false (by omega), br_false]
    exact h y (by omega) (hz (by omega))
  | k + 1, i, y, n, hi, hn, hy, hz => by
    obtain ⟨n, rfl⟩ : ∃ m, n = m + 1 := ⟨n - 1, by omega⟩
    have hlt : i < x.length := by omega
    simp only [law12.EditAll.l7, law12.EditAll.j49, law12.EditAll.j53]
    rw [lt_true hlt, br_true, ix_nat _ _ _ hlt, wrap_succ i (by omega)]
    refine ⟨⟨by omega, by omega⟩, close_law _ _ _ _ (by omega) fun z _ => ?_⟩
    by_cases he : i = q
    · rw [show ((i : Int) == (q : Int)) = true from by simp [he], br_true]
      refine ⟨⟨by simp; omega, by simp; omega⟩, editAll_loop x q hq K0 c hc hx h k (i + 1) _ n (by omega) (by omega) (by simp; omega) fun _ => ?_⟩
      exact ⟨(0, z.2), by simp, rfl⟩
    · rw [show ((i : Int) == (q : Int)) = false from by simp; omega, br_false]
      refine ⟨⟨by simp; omega, by simp; omega⟩, editAll_loop x q hq K0 c hc hx h k (i + 1) _ n (by omega) (by omega) (by simp; omega) fun hqi => ?_⟩
      obtain ⟨w, hw, h0⟩ := hz (by omega)
      exact ⟨w, List.mem_append_left _ hw, h0⟩
theorem editAll_j4 (K : Bool → Prop) (l : List Elem) (x : List Edit) (bad : Int) (b : Bool) (hb : b = false → l.length ≤ 15 ∧ x.length ≤ 15 ∧ 0 < x.length) (hbad : 0 ≤ bad ∧ bad ≤ 255) (h : K true) : law12.EditAll.j4 K l x bad b := by
  unfold law12.EditAll.j4
  cases b with
  | true => rw [br_true]; exact awake12_law _ h
  | false =>
    rw [br_false]
    obtain ⟨h1, h2, h3⟩ := hb rfl
    refine rising12_law l _ _ (by omega) fun c hs hc _ => ?_
    refine ⟨by omega, x.length + 1, ?_⟩
    rw [wrap_small (by omega) (by omega)]
    obtain ⟨q, hq⟩ : ∃ q : Nat, Int.tmod bad (x.length : Int) = (q : Int) := ⟨(Int.tmod bad (x.length : Int)).toNat, by have := Int.tmod_nonneg (x.length : Int) hbad.1; omega⟩
    have hlt : Int.tmod bad (x.length : Int) < (x.length : Int) := Int.tmod_lt_of_pos _ (by omega)
    rw [hq]
    refine editAll_loop x q (by omega) _ c (by omega) (by omega) (fun y hy hz => ?_) x.length 0 [] _ (by omega) (by omega) rfl (fun h => by omega)
    refine apply_law _ _ _ (by omega) (by omega) (rapply_law _ _ _ (by omega) (by omega) ?_)
    have hlen := applyT_len c y
    have hn : (applyT c y).2.2 ≠ 0 ∧ (applyT c y).1 = [] := by
      unfold applyT
      rw [if_pos hs]
      exact applyS_bad y c 0 hz
    rw [show ((applyT c y).2.2 == (applyT c y).2.2) = true from by simp, br_true, show ((applyT c y).2.1 == (applyT c y).2.1) = true from by simp, br_true]
    refine same_law _ _ _ (by omega) ?_
    rw [decide_eq_true rfl, br_true, show ((applyT c y).2.2 != 0) = true from by simpa using hn.1, br_true, hn.2]
    exact h
theorem editAll (by_ : Nat → Nat) (l : List Elem) (x : List Edit) (bad : Int) (w0 : Wf by_ (.sl 29 tElem) l) (w1 : Wf by_ (.sl 49 tEdit) x) (w2 : Wf by_ (.int .u8) bad) (K : Bool → Prop) (h : K true) : law12.EditAll l x bad K := by
  have hbad : 0 ≤ bad ∧ bad ≤ 255 := w2
  unfold law12.EditAll
  refine awake12_law _ ?_
  rw [Bool.not_true, br_false]
  by_cases h1 : l.length > 15
  · rw [decide_eq_true (by omega), br_true]
    exact editAll_j4 K l x bad true (fun h => by cases h) hbad h
  rw [decide_eq_false (by omega), br_false]
  by_cases h2 : x.length > 15
  · rw [decide_eq_true (by omega), br_true]
    exact editAll_j4 K l x bad true (fun h => by cases h) hbad h
  rw [decide_eq_false (by omega), br_false]
  refine editAll_j4 K l x bad _ (fun hb => ⟨by omega, by omega, ?_⟩) hbad h
  have : ((x.length : Nat) : Int) ≠ 0 := by simpa using hb
  omega
end Go.Iw
