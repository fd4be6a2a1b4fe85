/- Plain laws: the document's rules, and charts made from numbers. -/
import Derived.Test.YtdlhckmdllfamaaCQ9
namespace Go.Iw
open Go.Iv
set_option linter.unusedVariables false
set_option linter.unusedSimpArgs false

theorem br_any {b : Bool} {X Y : Prop} (hx : X) (hy : Y) : br b X Y := by cases b <;> assumption
theorem named_law (e : Elem) (K : Bool → Prop) (h : ∀ b, K b) : r09.named e K := by
  unfold r09.named
  cases (e.2.1 == 1)
  · exact h _
  · exact h _
theorem text_law (n : Int) (K : ByteArray → Prop) (h : ∀ s, K s) : r09.text n K := by
  unfold r09.text
  refine ⟨by omega, ?_⟩
  cases (Int.tmod n 4 == 0)
  · exact ⟨by omega, by omega, h _⟩
  · exact h _
def kindS (c : List Elem) (n : Int) : Int := if hasN n c = true then (findS c n).2.1 else 0
theorem kind_law (c : List Elem) (n : Int) (K : Int → Prop) (hc : c.length ≤ 1000000) (h : K (kindS c n)) : r09.kind c n K := by
  unfold r09.kind
  refine rFind_law _ _ _ hc ?_
  unfold kindS at h
  rcases fidx_spec n c 0 with ⟨g1, g2⟩ | ⟨a, ha, g1, g2, g3, g4⟩
  · rw [g1, show decide ((-1 : Int) < 0) = true from rfl, br_true]
    rw [if_neg (by simp [hasN, g2])] at h; exact h
  · rw [g1, show ((0 + a : Nat) : Int) = (a : Int) from by omega, show decide ((a : Int) < 0) = false from by simp, br_false, ix_nat _ _ _ ha]
    rw [if_pos g4, g2] at h
    exact ⟨⟨by omega, by omega⟩, h⟩

/-! Right. -/
def RightOk (c : List Elem) : Prop := Ris c ∧ c.length ≤ 40 ∧ ∀ e : Elem, e ∈ c → 1 ≤ e.1
theorem right_l10 (K0 : Bool → Prop) (K1 : (List Elem) → Int → Elem → Prop) (c : List Elem) (i : Int) (e : Elem) (hf : K0 false) (h1 : K1 c i e) (L : List Int) (hL : L.length ≤ 1000) :
    ∀ (k j n : Nat), j + k = L.length → k < n → r09.Right.l10 K0 K1 n c i ((L.length : Nat) : Int) (j : Int) e L
  | 0, j, n, hj, hn => by
    obtain ⟨n, rfl⟩ : ∃ m, n = m + 1 := ⟨n - 1, by omega⟩
    simp only [r09.Right.l10]
    rw [lt_false (by omega), br_false]; exact h1
  | k + 1, j, n, hj, hn => by
    obtain ⟨n, rfl⟩ : ∃ m, n = m + 1 := ⟨n - 1, by omega⟩
    have hlt : j < L.length := by omega
    simp only [r09.Right.l10, r09.Right.j26]
    rw [lt_true hlt, br_true, wrap_succ j (by omega)]
    refine ⟨⟨by omega, by omega⟩, by omega, ?_⟩
    have ih := right_l10 K0 K1 c i e hf h1 L hL k (j + 1) n (by omega) (by omega)
    cases decide ((ixN (0 : Int) L (Int.toNat (j : Int))) < (0 : Int)) with
    | true => exact hf
    | false =>
      rw [br_false]
      cases decide ((ixN (0 : Int) L (Int.toNat (j : Int))) > (1048576 : Int)) with
      | true => exact hf
      | false => exact ih
theorem right_l4 (K0 : Bool → Prop) (K1 : Prop) (c : List Elem) (hc : c.length ≤ 1000) (hf : K0 false) (h1 : (∀ e : Elem, e ∈ c → 1 ≤ e.1) → K1) :
    ∀ (k i n : Nat), i + k = c.length → k < n → (∀ (a : Nat) (ha : a < c.length), a < i → 1 ≤ c[a].1) → r09.Right.l4 K0 K1 n c (i : Int)
  | 0, i, n, hj, hn, hd => by
    obtain ⟨n, rfl⟩ : ∃ m, n = m + 1 := ⟨n - 1, by omega⟩
    simp only [r09.Right.l4]
    rw [lt_false (by omega), br_false]
    refine h1 fun e he => ?_
    obtain ⟨a, ha, rfl⟩ := List.mem_iff_getElem.1 he
    exact hd a ha (by omega)
  | k + 1, i, n, hj, hn, hd => by
    obtain ⟨n, rfl⟩ : ∃ m, n = m + 1 := ⟨n - 1, by omega⟩
    have hlt : i < c.length := by omega
    simp only [r09.Right.l4]
    rw [lt_true hlt, br_true, ix_nat _ _ _ hlt]
    refine ⟨⟨by omega, by omega⟩, ?_⟩
    by_cases hid : c[i].1 < 1
    · rw [decide_eq_true hid, br_true]
      unfold r09.Right.j16
      exact hf
    · rw [decide_eq_false hid, br_false]
      have ih := right_l4 K0 K1 c hc hf h1 k (i + 1) n (by omega) (by omega) fun a ha hai => by
        rcases Nat.lt_or_ge a i with hb | hb
        · exact hd a ha hb
        · have : a = i := by omega
          subst this; omega
      unfold r09.Right.j16
      cases decide (c[i].1 > 1048576) with
      | true => exact hf
      | false =>
        rw [br_false]
        refine ⟨5, right_l10 K0 _ c _ _ hf ?_ _ (by simp) 4 0 _ (by simp) (by omega)⟩
        have j : ∀ t : Bool, r09.Right.j32 K0 (fun c i => r09.Right.l4 K0 K1 n c i) c (i : Int) t := fun t => by
          unfold r09.Right.j32
          rw [wrap_succ i (by omega)]
          cases t with
          | true => exact hf
          | false => exact ih
        exact br_any (j _) (br_any (j _) (br_any (j _) (j _)))
theorem right9_law (c : List Elem) (K : Bool → Prop) (hc : c.length ≤ 1000) (h : ∀ b, (b = true → RightOk c) → K b) : r09.Right c K := by
  have hf : K false := h false (fun h => by cases h)
  unfold r09.Right r09.Right.j4
  by_cases hl : c.length > 40
  · rw [decide_eq_true (by omega), br_true]; exact hf
  · rw [decide_eq_false (by omega), br_false]
    refine rRising_law _ _ (by omega) ?_
    by_cases hs : Ris c
    · rw [decide_eq_true hs, Bool.not_true, br_false]
      exact ⟨c.length + 1, right_l4 K (K true) c hc hf (fun he => h true fun _ => ⟨hs, by omega, he⟩) c.length 0 _ (by omega) (by omega) (fun a ha h => by omega)⟩
    · rw [decide_eq_false hs]; exact hf

/-! Rules. -/
def Ok4 (c : List Elem) (e : Elem) : Prop := e.2.2.1 = 0 ∨ hasN e.2.2.1 c = true
def brk5 (c : List Elem) (id : Int) : Nat → Int → Bool
  | 0, _ => false
  | k + 1, at_ => if at_ = id then true else if hasN at_ c = true then brk5 c id k (findS c at_).2.2.1 else false
def Ok5 (c : List Elem) (e : Elem) : Prop := brk5 c e.1 c.length e.2.2.1 = false
theorem brk_l20 (c : List Elem) (e : Elem) (K : Bool → Prop) (hc : c.length ≤ 1000) : ∀ (k i n : Nat) (at_ : Int), i + k = c.length → k < n → K (brk5 c e.1 k at_) → r09.breaks.l20 K (K false) n c at_ (i : Int) e
  | 0, i, n, at_, hi, hn, h => by
    obtain ⟨n, rfl⟩ : ∃ m, n = m + 1 := ⟨n - 1, by omega⟩
    simp only [r09.breaks.l20]
    rw [lt_false (by omega), br_false]; exact h
  | k + 1, i, n, at_, hi, hn, h => by
    obtain ⟨n, rfl⟩ : ∃ m, n = m + 1 := ⟨n - 1, by omega⟩
    have hlt : i < c.length := by omega
    simp only [r09.breaks.l20]
    rw [lt_true hlt, br_true]
    unfold brk5 at h
    by_cases he : at_ = e.1
    · rw [show (at_ == e.1) = true from by simp [he], br_true]
      rw [if_pos he] at h; exact h
    · rw [show (at_ == e.1) = false from by simpa using he, br_false]
      rw [if_neg he] at h
      refine rFind_law _ _ _ (by omega) ?_
      rcases fidx_spec at_ c 0 with ⟨g1, g2⟩ | ⟨a, ha, g1, g2, g3, g4⟩
      · rw [g1, show decide ((-1 : Int) < 0) = true from rfl, br_true]
        rw [if_neg (by simp [hasN, g2])] at h; exact h
      · rw [g1, show ((0 + a : Nat) : Int) = (a : Int) from by omega, show decide ((a : Int) < 0) = false from by simp, br_false, ix_nat _ _ _ ha, wrap_succ i (by omega)]
        rw [if_pos g4, g2] at h
        exact ⟨⟨by omega, by omega⟩, brk_l20 c e K hc k (i + 1) n _ (by omega) (by omega) h⟩
theorem brk_l7 (c : List Elem) (K : Bool → Prop) (K1 : Elem → Prop) (e : Elem) (hc : c.length ≤ 1000) (h : ∀ b, K b) (h1 : K1 e) : ∀ (k i n : Nat), i + k = c.length → k < n → r09.breaks.l7 K K1 n c (i : Int) e
  | 0, i, n, hi, hn => by
    obtain ⟨n, rfl⟩ : ∃ m, n = m + 1 := ⟨n - 1, by omega⟩
    simp only [r09.breaks.l7]
    rw [lt_false (by omega), br_false]; exact h1
  | k + 1, i, n, hi, hn => by
    obtain ⟨n, rfl⟩ : ∃ m, n = m + 1 := ⟨n - 1, by omega⟩
    have hlt : i < c.length := by omega
    have ih := brk_l7 c K K1 e hc h h1 k (i + 1) n (by omega) (by omega)
    have j : ∀ t : Bool, r09.breaks.j20 K (fun a b d => r09.breaks.l7 K K1 n a b d) c (i : Int) t e := fun t => by
      unfold r09.breaks.j20
      rw [wrap_succ i (by omega)]
      exact br_any (h _) ih
    have hr : (0 : Int) ≤ (i : Int) ∧ (i : Int) < ((c.length : Nat) : Int) := ⟨by omega, by omega⟩
    simp only [r09.breaks.l7]
    rw [lt_true hlt, br_true]
    refine named_law _ _ fun b => br_any ⟨hr, named_law _ _ fun b => br_any ⟨hr, br_any ⟨hr, br_any ⟨hr, j _⟩ (j _)⟩ (j _)⟩ (j _)⟩ (j _)
theorem brk_l34 (c : List Elem) (K : Bool → Prop) (e : Elem) (hc : c.length ≤ 1000) (h : ∀ b, K b) : ∀ (k i n : Nat), i + k = c.length → k < n → r09.breaks.l34 K (K false) n c (i : Int) e
  | 0, i, n, hi, hn => by
    obtain ⟨n, rfl⟩ : ∃ m, n = m + 1 := ⟨n - 1, by omega⟩
    simp only [r09.breaks.l34]
    rw [lt_false (by omega), br_false]; exact h _
  | k + 1, i, n, hi, hn => by
    obtain ⟨n, rfl⟩ : ∃ m, n = m + 1 := ⟨n - 1, by omega⟩
    have hlt : i < c.length := by omega
    have ih := brk_l34 c K e hc h k (i + 1) n (by omega) (by omega)
    have j : ∀ t : Bool, r09.breaks.j74 K (fun a b d => r09.breaks.l34 K (K false) n a b d) c (i : Int) t e := fun t => by
      unfold r09.breaks.j74
      rw [wrap_succ i (by omega)]
      exact br_any (h _) ih
    have hr : (0 : Int) ≤ (i : Int) ∧ (i : Int) < ((c.length : Nat) : Int) := ⟨by omega, by omega⟩
    simp only [r09.breaks.l34]
    rw [lt_true hlt, br_true]
    exact br_any ⟨hr, br_any ⟨hr, br_any ⟨hr, br_any ⟨hr, j _⟩ (j _)⟩ (j _)⟩ (j _)⟩ (j _)
theorem brk_l42 (c : List Elem) (K0 : Bool → Bool → Prop) (e : Elem) (hc : c.length ≤ 1000) (h : ∀ a b, K0 a b) : ∀ (k i n : Nat) (r o : Bool), i + k = c.length → k < n → r09.breaks.l42 K0 n c r o (i : Int) e
  | 0, i, n, r, o, hi, hn => by
    obtain ⟨n, rfl⟩ : ∃ m, n = m + 1 := ⟨n - 1, by omega⟩
    simp only [r09.breaks.l42]
    rw [lt_false (by omega), br_false]; exact h _ _
  | k + 1, i, n, r, o, hi, hn => by
    obtain ⟨n, rfl⟩ : ∃ m, n = m + 1 := ⟨n - 1, by omega⟩
    have hlt : i < c.length := by omega
    have ih := fun r o => brk_l42 c K0 e hc h k (i + 1) n r o (by omega) (by omega)
    have hr : (0 : Int) ≤ (i : Int) ∧ (i : Int) < ((c.length : Nat) : Int) := ⟨by omega, by omega⟩
    simp only [r09.breaks.l42, r09.breaks.j92, r09.breaks.j379]
    rw [lt_true hlt, br_true, wrap_succ i (by omega)]
    exact ⟨hr, br_any (br_any (br_any (ih _ _) ⟨hr, ih _ _⟩) ⟨hr, br_any (ih _ _) ⟨hr, ih _ _⟩⟩) (ih _ _)⟩
theorem brk_j8 (K : Bool → Prop) (b : Bool) (e : Elem) (h : ∀ b, K b) : r09.breaks.j8 K b e := by
  unfold r09.breaks.j8
  have x : br (decide (e.2.1 > (2 : Int))) (K (!((ByteArray.toList e.2.2.2.2.1) == (ByteArray.toList noStr)))) (K false) := br_any (h _) (h _)
  have y : br (e.2.1 == (5 : Int)) (br (e.2.2.1 != (0 : Int)) (K true) (br (!((ByteArray.toList e.2.2.2.2.1) == (ByteArray.toList noStr))) (K true) (br (decide (e.2.1 > (2 : Int))) (K (!((ByteArray.toList e.2.2.2.2.1) == (ByteArray.toList noStr)))) (K false)))) (br (decide (e.2.1 > (2 : Int))) (K (!((ByteArray.toList e.2.2.2.2.1) == (ByteArray.toList noStr)))) (K false)) := br_any (br_any (h _) (br_any (h _) x)) x
  exact br_any (h _) (br_any (h _) (br_any (br_any (h _) y) y))
theorem kind_has {c : List Elem} {n : Int} (h : kindS c n ≠ 0) : hasN n c = true := by
  unfold kindS at h
  split at h
  · assumption
  · exact (h rfl).elim
theorem breaks_law (c : List Elem) (e : Elem) (rule : Int) (K : Bool → Prop) (hc : c.length ≤ 1000) (h : ∀ b, (b = false → (rule = 4 → Ok4 c e) ∧ (rule = 5 → Ok5 c e)) → K b) : r09.breaks c e rule K := by
  have hany : rule ≠ 4 → rule ≠ 5 → ∀ b, K b := fun n4 n5 b => h b fun _ => ⟨fun h => (n4 h).elim, fun h => (n5 h).elim⟩
  have ht : K true := h true fun h => by cases h
  unfold r09.breaks
  by_cases r2 : rule = 2
  · have hk := hany (by omega) (by omega)
    rw [show (rule == 2) = true from by simp [r2], br_true]
    exact br_any (brk_j8 K _ e hk) (br_any (brk_j8 K _ e hk) (br_any (brk_j8 K _ e hk) (br_any (brk_j8 K _ e hk) (brk_j8 K _ e hk))))
  rw [show (rule == 2) = false from by simpa using r2, br_false]
  by_cases r3 : rule = 3
  · have hk := hany (by omega) (by omega)
    rw [show (rule == 3) = true from by simp [r3], br_true]
    exact ⟨c.length + 1, brk_l7 c K _ e hc hk (named_law _ _ fun b => br_any (hk _) (hk _)) c.length 0 _ (by omega) (by omega)⟩
  rw [show (rule == 3) = false from by simpa using r3, br_false]
  by_cases r4 : rule = 4
  · rw [show (rule == 4) = true from by simp [r4], br_true]
    refine kind_law _ _ _ (by omega) ?_
    have hk : ∀ b, (b = false → Ok4 c e) → K b := fun b hb => h b fun hf => ⟨fun _ => hb hf, fun h => by omega⟩
    by_cases k2 : e.2.1 = 2
    · rw [show (e.2.1 == 2) = true from by simp [k2], br_true]
      refine br_any ht (hk _ fun hf => .inr (kind_has ?_))
      have : kindS c e.2.2.1 = 1 := by simpa using hf
      omega
    · rw [show (e.2.1 == 2) = false from by simpa using k2, br_false]
      by_cases hp : e.2.2.1 = 0
      · rw [show (e.2.2.1 != 0) = false from by simp [hp], br_false]
        exact hk _ fun _ => .inl hp
      · rw [show (e.2.2.1 != 0) = true from by simpa using hp, br_true]
        by_cases k1 : kindS c e.2.2.1 = 1
        · rw [show (kindS c e.2.2.1 != 1) = false from by simp [k1], br_false]
          exact hk _ fun _ => .inr (kind_has (by omega))
        · rw [show (kindS c e.2.2.1 != 1) = true from by simpa using k1, br_true]
          refine hk _ fun hf => .inr (kind_has ?_)
          have : kindS c e.2.2.1 = 2 := by simpa using hf
          omega
  rw [show (rule == 4) = false from by simpa using r4, br_false]
  by_cases r5 : rule = 5
  · rw [show (rule == 5) = true from by simp [r5], br_true]
    refine ⟨c.length + 1, brk_l20 c e K hc c.length 0 _ _ (by omega) (by omega) (h _ fun hf => ⟨fun h => (r4 h).elim, fun _ => hf⟩)⟩
  rw [show (rule == 5) = false from by simpa using r5, br_false]
  have hk := hany r4 r5
  refine br_any ?_ (br_any ?_ ?_)
  · refine kind_law _ _ _ (by omega) (br_any (kind_law _ _ _ (by omega) (br_any (hk _) (br_any (br_any (hk _) (hk _)) (hk _)))) (hk _))
  · exact ⟨c.length + 1, brk_l34 c K e hc hk c.length 0 _ (by omega) (by omega)⟩
  · exact ⟨c.length + 1, brk_l42 c _ e hc (fun a b => br_any (hk _) (hk _)) c.length 0 _ _ _ (by omega) (by omega)⟩

/-- What a chart that keeps the rules is, as far as it is needed. -/
def RulesOk (c : List Elem) : Prop := RightOk c ∧ ∀ e : Elem, e ∈ c → Ok4 c e ∧ Ok5 c e
theorem check_l7 (c : List Elem) (rule : Int) (K0 : Int → Int → Prop) (K1 : (List Elem) → Int → Prop) (hc : c.length ≤ 1000) (h0 : ∀ id, K0 rule id)
    (h1 : (∀ e : Elem, e ∈ c → (rule = 4 → Ok4 c e) ∧ (rule = 5 → Ok5 c e)) → K1 c rule) :
    ∀ (k i n : Nat), i + k = c.length → k < n → (∀ (a : Nat) (ha : a < c.length), a < i → (rule = 4 → Ok4 c c[a]) ∧ (rule = 5 → Ok5 c c[a])) → r09.Check.l7 K0 K1 n c rule (i : Int)
  | 0, i, n, hi, hn, hd => by
    obtain ⟨n, rfl⟩ : ∃ m, n = m + 1 := ⟨n - 1, by omega⟩
    simp only [r09.Check.l7]
    rw [lt_false (by omega), br_false]
    refine h1 fun e he => ?_
    obtain ⟨a, ha, rfl⟩ := List.mem_iff_getElem.1 he
    exact hd a ha (by omega)
  | k + 1, i, n, hi, hn, hd => by
    obtain ⟨n, rfl⟩ : ∃ m, n = m + 1 := ⟨n - 1, by omega⟩
    have hlt : i < c.length := by omega
    simp only [r09.Check.l7]
    rw [lt_true hlt, br_true, ix_nat _ _ _ hlt, wrap_succ i (by omega)]
    refine ⟨⟨by omega, by omega⟩, breaks_law _ _ _ _ hc fun b hb => ?_⟩
    cases b with
    | true => rw [br_true]; exact ⟨⟨by omega, by omega⟩, h0 _⟩
    | false =>
      rw [br_false]
      refine check_l7 c rule K0 K1 hc h0 h1 k (i + 1) n (by omega) (by omega) fun a ha hai => ?_
      rcases Nat.lt_or_ge a i with hlt' | hge
      · exact hd a ha hlt'
      · have : a = i := by omega
        subst this; exact hb rfl
theorem check_l4 (c : List Elem) (K : Int → Int → Prop) (hc : c.length ≤ 1000) (hK : ∀ r id, r ≠ 0 → K r id) (h0 : (∀ e : Elem, e ∈ c → Ok4 c e ∧ Ok5 c e) → K 0 0) :
    ∀ (k r n : Nat), r + k = 9 → k < n → 2 ≤ r → (4 < r → ∀ e : Elem, e ∈ c → Ok4 c e) → (5 < r → ∀ e : Elem, e ∈ c → Ok5 c e) → r09.Check.l4 K (K 0 0) n c (r : Int)
  | 0, r, n, hr, hn, h2, o4, o5 => by
    obtain ⟨n, rfl⟩ : ∃ m, n = m + 1 := ⟨n - 1, by omega⟩
    simp only [r09.Check.l4]
    rw [decide_eq_false (by omega), br_false]
    exact h0 fun e he => ⟨o4 (by omega) e he, o5 (by omega) e he⟩
  | k + 1, r, n, hr, hn, h2, o4, o5 => by
    obtain ⟨n, rfl⟩ : ∃ m, n = m + 1 := ⟨n - 1, by omega⟩
    simp only [r09.Check.l4]
    rw [decide_eq_true (by omega), br_true]
    refine ⟨c.length + 1, check_l7 c (r : Int) K _ hc (fun id => hK _ _ (by omega)) (fun ho => ?_) c.length 0 _ (by omega) (by omega) (fun a ha h => by omega)⟩
    rw [wrap_succ r (by omega)]
    refine check_l4 c K hc hK h0 k (r + 1) n (by omega) (by omega) (by omega) (fun h4 e he => ?_) (fun h5 e he => ?_)
    · by_cases e4 : r = 4
      · exact (ho e he).1 (by omega)
      · exact o4 (by omega) e he
    · by_cases e5 : r = 5
      · exact (ho e he).2 (by omega)
      · exact o5 (by omega) e he
theorem check_law (c : List Elem) (K : Int → Int → Prop) (hc : c.length ≤ 1000) (h : ∀ r id, (r = 0 → RulesOk c) → K r id) : r09.Check c K := by
  unfold r09.Check
  refine right9_law _ _ hc fun b hb => ?_
  cases b with
  | false => exact h 1 0 (fun h => by cases h)
  | true =>
    rw [Bool.not_true, br_false]
    refine ⟨8, check_l4 c K hc (fun r id hr => h r id fun h0 => (hr h0).elim) (fun ho => h 0 0 fun _ => ⟨hb rfl, ho⟩) 7 2 _ (by omega) (by omega) (by omega) (fun h => by omega) (fun h => by omega)⟩
end Go.Iw
