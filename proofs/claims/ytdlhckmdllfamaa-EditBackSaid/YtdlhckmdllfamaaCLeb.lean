/- EditBack: the plain law. -/
import Derived.Test.YtdlhckmdllfamaaCQ6
namespace Go.Iw
open Go.Iv
set_option linter.unusedVariables false
set_option linter.unusedSimpArgs false
theorem back_loop (x : List Edit) (how : List Int) (c : List Elem) (K0 : List Elem → List Edit → Prop) (hx : x.length ≤ 1000) (hwx : ∀ e : Edit, e ∈ x → BE e.2.1)
    (h : ∀ y : List Edit, y.length ≤ x.length → (∀ e : Edit, e ∈ y → BE e.2.1) → K0 c y) :
    ∀ (k i : Nat) (at_ : List Elem) (y : List Edit) (n : Nat), i + k = x.length → k < n → at_.length + k ≤ 10000 → AllB at_ → y.length ≤ i → (∀ e : Edit, e ∈ y → BE e.2.1) → law12.EditBack.l9 K0 n x how c at_ (i : Int) y
  | 0, i, at_, y, n, hi, hn, hl, hb, hy, hyb => by
    obtain ⟨n, rfl⟩ : ∃ m, n = m + 1 := ⟨n - 1, by omega⟩
    simp only [law12.EditBack.l9]
    rw [lt_false (by omega), br_false]
    exact h y (by omega) hyb
  | k + 1, i, at_, y, n, hi, hn, hl, hb, hy, hyb => by
    obtain ⟨n, rfl⟩ : ∃ m, n = m + 1 := ⟨n - 1, by omega⟩
    have hlt : i < x.length := by omega
    simp only [law12.EditBack.l9]
    rw [lt_true hlt, br_true]
    have ih := back_loop x how c K0 hx hwx h k (i + 1)
    have go : ∀ hh : Int, law12.EditBack.j57 (fun a b c d e f => law12.EditBack.l9 K0 n a b c d e f) x how c at_ (i : Int) hh y := fun hh => by
      unfold law12.EditBack.j57 law12.EditBack.j73 law12.EditBack.j81
      refine ⟨⟨by omega, by omega⟩, ?_⟩
      rw [ix_nat _ _ _ hlt, wrap_succ i (by omega)]
      refine close_law _ _ _ _ (by omega) fun z hz => ?_
      have hzb : BE z.2.1 := by
        have h0 := hwx x[i] (List.getElem_mem _)
        rcases hz with rfl | hz | hz | hz
        · exact h0
        · unfold BE; omega
        · unfold BE at h0 ⊢; rw [hz]; exact h0
        · exact hb _ hz
      have hyz : ∀ e : Edit, e ∈ y ++ [z] → BE e.2.1 := fun e he => by
        rcases List.mem_append.1 he with he | he
        · exact hyb e he
        · simp at he; rw [he]; exact hzb
      refine rone_law _ _ _ (by omega) ?_
      have hlen := one_len at_ z
      by_cases he : (oneT at_ z).2 = 0
      · rw [show ((oneT at_ z).2 == 0) = true from by simp [he], br_true]
        exact ⟨⟨by simp; omega, by simp; omega⟩, ih _ _ n (by omega) (by omega) (by omega) (one_B hb hzb he) (by simp; omega) hyz⟩
      · rw [show ((oneT at_ z).2 == 0) = false from by simpa using he, br_false]
        refine ⟨by omega, ?_⟩
        cases decide (Int.tmod hh 8 > 1) with
        | true => rw [br_true]; exact ih _ _ n (by omega) (by omega) (by omega) hb (by omega) hyb
        | false => rw [br_false]; exact ⟨⟨by simp; omega, by simp; omega⟩, ih _ _ n (by omega) (by omega) (by omega) hb (by simp; omega) hyz⟩
    by_cases hh : i < how.length
    · rw [lt_true hh, br_true]
      exact ⟨⟨by omega, by omega⟩, go _⟩
    · rw [lt_false (by omega), br_false]
      exact go _
theorem back_j25 (K : Bool → Prop) (x : List Edit) (how : List Int) (c : List Elem) (hx : x.length ≤ 20) (hc : c.length ≤ 20) (hwx : ∀ e : Edit, e ∈ x → BE e.2.1) (hb : AllB c) (h : K true) : law12.EditBack.j25 K x how c := by
  unfold law12.EditBack.j25
  refine ⟨x.length + 1, back_loop x how c _ (by omega) hwx (fun y hy hyb => ?_) x.length 0 c [] _ (by omega) (by omega) (by omega) hb (by simp) (fun e he => by simp at he)⟩
  refine apply_law _ _ _ (by omega) (by omega) (rapply_law _ _ _ (by omega) (by omega) ?_)
  have hlen := applyT_len c y
  rw [show ((applyT c y).2.2 != (applyT c y).2.2) = false from by simp, br_false, show ((applyT c y).2.1 != (applyT c y).2.1) = false from by simp, br_false]
  refine same_law _ _ _ (by omega) ?_
  rw [decide_eq_true rfl, Bool.not_true]
  unfold law12.EditBack.j46
  rw [br_false]
  by_cases hs : Ris c
  · have e : applyT c y = applyS c y 0 := by unfold applyT; rw [if_pos hs]
    rw [e] at hlen ⊢
    by_cases he : (applyS c y 0).2.2 = 0
    · rw [show ((applyS c y 0).2.2 != 0) = false from by simp [he], br_false]
      refine ⟨by omega, ?_⟩
      have hbk := back_all y c _ 0 0 hb hyb he rfl
      have hrs := applyS_ris y c 0 hs
      refine apply_law _ _ _ (by simp; omega) (by omega) ?_
      have e2 : applyT (applyS c y 0).1 (y.map invE).reverse = (c, 0, 0) := by unfold applyT; rw [if_pos hrs]; exact hbk
      rw [e2]
      rw [show ((0 : Int) == 0) = true from rfl, br_true]
      refine same_law _ _ _ (by show c.length ≤ _; omega) ?_
      rw [decide_eq_true rfl]; exact h
    · rw [show ((applyS c y 0).2.2 != 0) = true from by simpa using he, br_true]
      have hnil : ∀ (l : List Edit) (c : List Elem) (i : Nat), (applyS c l i).2.2 ≠ 0 → (applyS c l i).1 = [] := by
        intro l
        induction l with
        | nil => intro c i h; exact (h rfl).elim
        | cons x l ih =>
          intro c i h
          unfold applyS at h ⊢
          split
          · rename_i hx; rw [if_pos hx] at h; exact ih _ _ h
          · rfl
      rw [hnil y c 0 he]; exact h
  · have e : applyT c y = ([], 0, 7) := by unfold applyT; rw [if_neg hs]
    rw [e]; exact h
theorem editBack (by_ : Nat → Nat) (l : List Elem) (x : List Edit) (how : List Int) (raw : Bool) (w0 : Wf by_ (.sl 29 tElem) l) (w1 : Wf by_ (.sl 49 tEdit) x) (w2 : Wf by_ (.sl 5 (.int .u8)) how) (w3 : Wf by_ .bool raw) (K : Bool → Prop) (h : K true) : law12.EditBack l x how raw K := by
  have hlB : AllB l := fun e he => (w0.1 e he).2.1
  have hxB : ∀ e : Edit, e ∈ x → BE e.2.1 := fun e he => (w1.1 e he).2.1.2.1
  have gate : ∀ b : Bool, (b = false → l.length ≤ 20 ∧ x.length ≤ 20) → law12.EditBack.j4 K l x how raw b := by
    intro b hb
    unfold law12.EditBack.j4
    cases b with
    | true => rw [br_true]; exact awake12_law _ h
    | false =>
      rw [br_false]
      obtain ⟨h1, h2⟩ := hb rfl
      refine rising12_law l _ _ (by omega) fun c hs hc hk => ?_
      have hcB : AllB c := fun e he => by
        obtain ⟨e', he', h'⟩ := hk e he
        have := hlB e' he'
        unfold BE at this ⊢
        rw [h']; exact this
      cases raw with
      | true => rw [br_true]; exact back_j25 K x how l (by omega) (by omega) hxB hlB h
      | false => rw [br_false]; exact back_j25 K x how c (by omega) (by omega) hxB hcB h
  unfold law12.EditBack
  refine awake12_law _ ?_
  rw [Bool.not_true, br_false]
  by_cases h1 : l.length > 20
  · rw [decide_eq_true (by omega), br_true]
    exact gate true (fun h => by cases h)
  rw [decide_eq_false (by omega), br_false]
  refine gate _ fun hb => ⟨by omega, ?_⟩
  have := of_decide_eq_false hb
  omega
end Go.Iw
