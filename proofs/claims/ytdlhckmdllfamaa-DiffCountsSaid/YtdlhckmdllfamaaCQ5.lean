/- Plain laws: edits, one behind the other; what the laws of layer 12 begin with. -/
import Derived.Test.YtdlhckmdllfamaaCQ4
namespace Go.Iw
open Go.Iv
set_option linter.unusedVariables false
set_option linter.unusedSimpArgs false

def applyS : List Elem → List Edit → Nat → List Elem × Int × Int
  | c, [], _ => (c, 0, 0)
  | c, x :: r, i => if (oneT c x).2 = 0 then applyS (oneT c x).1 r (i + 1) else ([], (i : Int), (oneT c x).2)
def applyT (c : List Elem) (l : List Edit) : List Elem × Int × Int := if Ris c then applyS c l 0 else ([], 0, 7)
theorem applyS_len : ∀ (l : List Edit) (c : List Elem) (i : Nat), (applyS c l i).1.length ≤ c.length + l.length
  | [], c, i => by simp [applyS]
  | x :: r, c, i => by
    have := applyS_len r (oneT c x).1 (i + 1)
    have := one_len c x
    unfold applyS
    split
    · simp only [List.length_cons]; omega
    · simp
theorem applyT_len (c : List Elem) (l : List Edit) : (applyT c l).1.length ≤ c.length + l.length := by
  unfold applyT
  split
  · exact applyS_len l c 0
  · simp

theorem apply_loop (l : List Edit) (K : List Elem → Int → Int → Prop) (hl : l.length ≤ 100000) : ∀ (k i : Nat) (c : List Elem) (n : Nat), i + k = l.length → k < n → c.length + k ≤ 1000000 →
    K (applyS c (l.drop i) i).1 (applyS c (l.drop i) i).2.1 (applyS c (l.drop i) i).2.2 →
    edit.Apply.l5 (fun p e c => K c p e) (fun c => K c 0 0) n l ((l.length : Nat) : Int) (i : Int) c
  | 0, i, c, n, hi, hn, hcl, h => by
    obtain ⟨n, rfl⟩ : ∃ m, n = m + 1 := ⟨n - 1, by omega⟩
    simp only [edit.Apply.l5]
    rw [lt_false (by omega), br_false]
    rw [List.drop_eq_nil_of_le (by omega)] at h
    exact h
  | k + 1, i, c, n, hi, hn, hcl, h => by
    obtain ⟨n, rfl⟩ : ∃ m, n = m + 1 := ⟨n - 1, by omega⟩
    have hlt : i < l.length := by omega
    rw [List.drop_eq_getElem_cons hlt] at h
    simp only [edit.Apply.l5]
    rw [lt_true hlt, br_true, ix_nat _ _ _ hlt, wrap_succ i (by omega)]
    refine ⟨⟨by omega, by omega⟩, one_law _ _ _ (by omega) ?_⟩
    have hlen := one_len c l[i]
    unfold applyS at h
    by_cases he : (oneT c l[i]).2 = 0
    · rw [if_pos he] at h
      rw [show ((oneT c l[i]).2 != 0) = false from by simp [he], br_false]
      exact apply_loop l K hl k (i + 1) _ n (by omega) (by omega) (by omega) h
    · rw [if_neg he] at h
      rw [show ((oneT c l[i]).2 != 0) = true from by simpa using he, br_true]
      exact h
theorem apply_law (c : List Elem) (l : List Edit) (K : List Elem → Int → Int → Prop) (hl : l.length ≤ 100000) (hc : c.length ≤ 100000) (h : K (applyT c l).1 (applyT c l).2.1 (applyT c l).2.2) : edit.Apply c l K := by
  unfold edit.Apply
  refine cRising_law _ _ (by omega) ?_
  unfold applyT at h
  by_cases hs : Ris c
  · rw [decide_eq_true hs, Bool.not_true, br_false]
    rw [if_pos hs] at h
    exact ⟨⟨by omega, by omega⟩, l.length + 1, apply_loop l K hl l.length 0 c _ (by omega) (by omega) (by omega) (by rw [List.drop_zero]; exact h)⟩
  · rw [decide_eq_false hs, Bool.not_false, br_true]
    rw [if_neg hs] at h; exact h
theorem rapply_loop (l : List Edit) (K : List Elem → Int → Int → Prop) (hl : l.length ≤ 100000) : ∀ (k i : Nat) (c : List Elem) (n : Nat), i + k = l.length → k < n → c.length + k ≤ 1000000 →
    K (applyS c (l.drop i) i).1 (applyS c (l.drop i) i).2.1 (applyS c (l.drop i) i).2.2 →
    r12.Apply.l4 K (fun c => K c 0 0) n c l (i : Int)
  | 0, i, c, n, hi, hn, hcl, h => by
    obtain ⟨n, rfl⟩ : ∃ m, n = m + 1 := ⟨n - 1, by omega⟩
    simp only [r12.Apply.l4]
    rw [lt_false (by omega), br_false]
    rw [List.drop_eq_nil_of_le (by omega)] at h
    exact h
  | k + 1, i, c, n, hi, hn, hcl, h => by
    obtain ⟨n, rfl⟩ : ∃ m, n = m + 1 := ⟨n - 1, by omega⟩
    have hlt : i < l.length := by omega
    rw [List.drop_eq_getElem_cons hlt] at h
    simp only [r12.Apply.l4]
    rw [lt_true hlt, br_true, ix_nat _ _ _ hlt, wrap_succ i (by omega)]
    refine ⟨⟨by omega, by omega⟩, rone_law _ _ _ (by omega) ?_⟩
    have hlen := one_len c l[i]
    unfold applyS at h
    by_cases he : (oneT c l[i]).2 = 0
    · rw [if_pos he] at h
      rw [show ((oneT c l[i]).2 != 0) = false from by simp [he], br_false]
      exact rapply_loop l K hl k (i + 1) _ n (by omega) (by omega) (by omega) h
    · rw [if_neg he] at h
      rw [show ((oneT c l[i]).2 != 0) = true from by simpa using he, br_true]
      exact h
theorem rapply_law (c : List Elem) (l : List Edit) (K : List Elem → Int → Int → Prop) (hl : l.length ≤ 100000) (hc : c.length ≤ 100000) (h : K (applyT c l).1 (applyT c l).2.1 (applyT c l).2.2) : r12.Apply c l K := by
  unfold r12.Apply
  refine rRising_law _ _ (by omega) ?_
  unfold applyT at h
  by_cases hs : Ris c
  · rw [decide_eq_true hs, Bool.not_true, br_false]
    rw [if_pos hs] at h
    exact ⟨l.length + 1, rapply_loop l K hl l.length 0 c _ (by omega) (by omega) (by omega) (by rw [List.drop_zero]; exact h)⟩
  · rw [decide_eq_false hs, Bool.not_false, br_true]
    rw [if_neg hs] at h; exact h

/-! What the laws of layer 12 begin with. -/
theorem awake12_law (K : Bool → Prop) (h : K true) : law12.awake K := by
  unfold law12.awake edit.Invert
  refine ⟨by simp, ?_⟩
  simp [invE, edit.Of, edit.Of.j33, h, ixN]

/-- Its kinds are those of some others. -/
def KindsOf (l c : List Elem) : Prop := ∀ e ∈ c, ∃ e' ∈ l, e.2.1 = e'.2.1
theorem mem_put {c : List Elem} {e x : Elem} (h : x ∈ putS c e) : x = e ∨ x ∈ c := by
  unfold putS at h
  rcases List.mem_append.1 h with h | h
  · exact .inr ((List.mem_filter.1 h).1)
  · rcases List.mem_cons.1 h with h | h
    · exact .inl h
    · exact .inr ((List.mem_filter.1 h).1)
theorem rising12_loop (l : List Elem) (near : Bool) (K0 : List Elem → Prop) (hl : l.length ≤ 100000) (h : ∀ c, Ris c → c.length ≤ l.length → KindsOf l c → K0 c) : ∀ (k i : Nat) (c : List Elem) (n : Nat), i + k = l.length → k < n → c.length ≤ i → Ris c → KindsOf l c → law12.rising.l3 K0 n l near (i : Int) c
  | 0, i, c, n, hi, hn, hcl, hs, hk => by
    obtain ⟨n, rfl⟩ : ∃ m, n = m + 1 := ⟨n - 1, by omega⟩
    simp only [law12.rising.l3]
    rw [lt_false (by omega), br_false]
    exact h c hs (by omega) hk
  | k + 1, i, c, n, hi, hn, hcl, hs, hk => by
    obtain ⟨n, rfl⟩ : ∃ m, n = m + 1 := ⟨n - 1, by omega⟩
    have hlt : i < l.length := by omega
    simp only [law12.rising.l3, law12.rising.j37, law12.rising.j41]
    rw [lt_true hlt, br_true, ix_nat _ _ _ hlt, wrap_succ i (by omega)]
    refine ⟨⟨by omega, by omega⟩, ?_⟩
    have go : ∀ e : Elem, e.2.1 = l[i].2.1 → r09.Put c e (fun r => law12.rising.l3 K0 n l near ((i + 1 : Nat) : Int) r) := fun e he => by
      refine rPut_law _ _ _ hs (by omega) (rising12_loop l near K0 hl h k (i + 1) _ n (by omega) (by omega) (Nat.le_trans (put_len _ _) (by omega)) (put_ris _ hs) ?_)
      intro x hx
      rcases mem_put hx with rfl | hx
      · exact ⟨l[i], List.getElem_mem _, he⟩
      · exact hk x hx
    cases near with
    | true => rw [br_true]; exact ⟨by omega, by omega, go _ rfl⟩
    | false => rw [br_false]; exact go _ rfl
theorem rising12_law (l : List Elem) (near : Bool) (K : List Elem → Prop) (hl : l.length ≤ 100000) (h : ∀ c, Ris c → c.length ≤ l.length → KindsOf l c → K c) : law12.rising l near K :=
  ⟨l.length + 1, rising12_loop l near K hl h l.length 0 [] _ (by omega) (by omega) (by simp) List.Pairwise.nil (fun x hx => by simp at hx)⟩

theorem close_j49 (K : Edit → Prop) (c : List Elem) (id : Int) (ox ot : Edit) (h : ∀ y : Edit, y.2.1 = ox.2.1 → K y) : law12.close.j49 K c (fidx id c 0) ox ot := by
  unfold law12.close.j49 law12.close.j65
  rcases fidx_spec id c 0 with ⟨g1, g2⟩ | ⟨a, ha, g1, g2, g3, g4⟩
  · rw [g1]
    exact h _ rfl
  · rw [g1, decide_eq_true (by omega), br_true]
    exact ⟨⟨by omega, by omega⟩, Value_law _ _ _ (h _ rfl)⟩
theorem close_j20 (K : Edit → Prop) (c : List Elem) (id : Int) (b : Bool) (ox ot : Edit) (h : ∀ y : Edit, y.2.1 = ox.2.1 → K y) : law12.close.j20 K c (fidx id c 0) b ox ot := by
  unfold law12.close.j20
  cases b with
  | true => rw [br_true]; exact close_j49 K c id _ _ h
  | false => rw [br_false]; exact ⟨by omega, close_j49 K c id _ _ h⟩
theorem close_law (c : List Elem) (x : Edit) (how : Int) (K : Edit → Prop) (hc : c.length ≤ 1000000) (h : ∀ y : Edit, y = x ∨ y.2.1.2.1 = 0 ∨ y.2.1.2.1 = x.2.1.2.1 ∨ y.2.1 ∈ c → K y) : law12.close c x how K := by
  unfold law12.close
  refine ⟨by omega, ?_⟩
  cases (Int.tmod how 4 == 0) with
  | true => rw [br_true]; exact h _ (.inl rfl)
  | false =>
    rw [br_false]
    refine ⟨by omega, by omega, rFind_law _ _ _ hc ?_⟩
    cases (IntKind.wrap .u8 ((1 : Int) + (Int.tmod x.1 (3 : Int))) == (3 : Int)) with
    | true =>
      rw [br_true]
      refine ⟨by omega, ?_⟩
      cases (IntKind.wrap .i64 (Int.tmod (IntKind.wrap .u64 x.2.2.1) (9 : Int)) == (3 : Int)) with
      | true => rw [br_true]; exact close_j20 K c _ _ _ _ fun y hy => h y (.inr (.inl (by rw [hy])))
      | false => rw [br_false]; exact close_j20 K c _ _ _ _ fun y hy => h y (.inr (.inl (by rw [hy])))
    | false =>
      rw [br_false]
      refine ⟨by omega, ?_⟩
      have no : ∀ (i : Int) (ox ot : Edit), ox.2.1.2.1 = x.2.1.2.1 → law12.close.j44 K c i false ox ot := fun i ox ot ho => by
        unfold law12.close.j44 law12.close.j93
        rw [br_false]
        exact h _ (.inr (.inr (.inl ho)))
      cases (IntKind.wrap .u8 ((1 : Int) + (Int.tmod x.1 (3 : Int))) == (2 : Int)) with
      | false => rw [br_false]; exact no _ _ _ rfl
      | true =>
        rw [br_true]
        generalize (IntKind.wrap .i64 ((1 : Int) + (IntKind.wrap .i64 (Int.tmod (IntKind.wrap .u64 x.2.1.1) (8 : Int))))) = id
        rcases fidx_spec id c 0 with ⟨g1, g2⟩ | ⟨a, ha, g1, g2, g3, g4⟩
        · rw [g1, show decide ((-1 : Int) ≥ 0) = false from rfl, br_false]
          exact no _ _ _ rfl
        · rw [g1, decide_eq_true (by omega), br_true]
          refine ⟨by omega, ?_⟩
          cases decide (Int.tmod how 4 > 1) with
          | false => exact no _ _ _ rfl
          | true =>
            unfold law12.close.j44 law12.close.j93
            rw [br_true, ix_nat _ _ _ (by omega : 0 + a < c.length)]
            exact ⟨⟨by omega, by omega⟩, h _ (.inr (.inr (.inr (List.getElem_mem _))))⟩
end Go.Iw
