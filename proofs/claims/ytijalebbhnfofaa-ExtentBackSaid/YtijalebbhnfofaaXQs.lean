/- Plain laws, one behind the other. -/
import Derived.Test.YtijalebbhnfofaaXPl
import Derived.Test.YtijalebbhnfofaaJvK
/- Plain laws: places that are taken, and freed. -/
namespace Go.Iw
open Go.Iv
set_option linter.unusedVariables false
set_option linter.unusedSimpArgs false

@[simp] theorem br_true (X Y : Prop) : br true X Y = X := rfl
@[simp] theorem br_false (X Y : Prop) : br false X Y = Y := rfl
theorem wrap_small {n : Int} (h1 : -9223372036854775808 ≤ n) (h2 : n ≤ 9223372036854775807) : IntKind.wrap .i64 n = n := by
  rw [IntKind.wrap_i64]; omega
theorem wrap_small_u8 {n : Int} (h1 : 0 ≤ n) (h2 : n ≤ 255) : IntKind.wrap .u8 n = n := by
  rw [IntKind.wrap_u8]; omega
theorem ix_nat {α : Type} (z : α) (c : List α) (i : Nat) (h : i < c.length) : ix z c (i : Int) = c[i] := by
  simp [ix, List.getD_eq_getElem?_getD, List.getElem?_eq_getElem h]
theorem ix_getD {α : Type} (z : α) (c : List α) (i : Nat) : ix z c (i : Int) = c.getD i z := by
  simp [ix]
theorem wrap_succ (i : Nat) (h : i < 9223372036854775807) : IntKind.wrap .i64 ((i : Int) + 1) = ((i + 1 : Nat) : Int) := by
  rw [wrap_small (by omega) (by omega)]; omega
theorem lt_true {i n : Nat} (h : i < n) : decide ((i : Int) < (n : Int)) = true := by simp; omega
theorem lt_false {i n : Nat} (h : n ≤ i) : decide ((i : Int) < (n : Int)) = false := by simp; omega
theorem eqT_bool (x y : Bool) : eqT .bool x y = (x == y) := by cases x <;> cases y <;> rfl

/-- So many places are free from one on. -/
def okAt (u : List Bool) (a n : Nat) : Prop := a + n ≤ u.length ∧ ∀ j, j < n → u.getD (a + j) false = false
instance (u : List Bool) (a n : Nat) : Decidable (okAt u a n) := by unfold okAt; infer_instance
/-- The first place from which so many are free. -/
def IsFind (u : List Bool) (n : Int) (r : Int) : Prop :=
  (n < 1 ∧ r = -1) ∨ (1 ≤ n ∧ ((r = -1 ∧ ∀ a, ¬ okAt u a n.toNat) ∨ ∃ a : Nat, r = (a : Int) ∧ okAt u a n.toNat ∧ ∀ b, b < a → ¬ okAt u b n.toNat))
theorem isFind_one {u : List Bool} {n r s : Int} (h : IsFind u n r) (k : IsFind u n s) : r = s := by
  rcases h with ⟨h1, h2⟩ | ⟨h1, ⟨h2, h3⟩ | ⟨a, h2, h3, h4⟩⟩ <;> rcases k with ⟨k1, k2⟩ | ⟨k1, ⟨k2, k3⟩ | ⟨b, k2, k3, k4⟩⟩ <;> try omega
  · exact absurd k3 (h3 b)
  · exact absurd h3 (k3 a)
  · have : a = b := by
      rcases Nat.lt_trichotomy a b with h | h | h
      · exact absurd h3 (k4 a h)
      · exact h
      · exact absurd k3 (h4 b h)
    omega

theorem find_law (u : List Bool) (x : Unit) (n : Int) (K : Int → Prop) (hu : u.length ≤ 1000000000000) (h : ∀ r, IsFind u n r → K r) : extent.Map_Find (u, x) n K := by
  unfold extent.Map_Find extent.Map_Find.j6
  by_cases hn : n < 1
  · rw [decide_eq_true hn, br_true]
    exact h _ (.inl ⟨hn, rfl⟩)
  rw [decide_eq_false hn, br_false]
  obtain ⟨k, rfl⟩ := Int.eq_ofNat_of_zero_le (show 0 ≤ n by omega)
  have hk : 1 ≤ k := by omega
  have key : ∀ (m i run : Nat), i + m = u.length → run ≤ i → run < k → (∀ j, i - run ≤ j → j < i → u.getD j false = false) → (run = i ∨ u.getD (i - run - 1) false = true) → (∀ a, okAt u a k → i < a + k) →
      extent.Map_Find.l5 K (K (-1)) (m + 1) (k : Int) (run : Int) u ((u.length : Nat) : Int) (i : Int) := by
    intro m
    induction m with
    | zero =>
      intro i run hi hr hrk hf hb hno
      unfold extent.Map_Find.l5
      rw [lt_false (by omega), br_false]
      refine h _ (.inr ⟨by omega, .inl ⟨rfl, fun a ha => ?_⟩⟩)
      rw [Int.toNat_natCast] at ha
      have := hno a ha
      have := ha.1
      omega
    | succ m ih =>
      intro i run hi hr hrk hf hb hno
      unfold extent.Map_Find.l5
      rw [lt_true (by omega), br_true]
      refine ⟨⟨by omega, by omega⟩, ?_⟩
      rw [ix_getD]
      cases hc : u.getD i false with
      | true =>
        rw [br_true]
        unfold extent.Map_Find.j41 extent.Map_Find.j199
        rw [show ((0 : Int) == (k : Int)) = false from by simp; omega, br_false, wrap_succ _ (by omega)]
        refine ih (i + 1) 0 (by omega) (by omega) (by omega) (fun j h1 h2 => by omega) (.inr (by simpa using hc)) (fun a ha => ?_)
        have h1 := hno a ha
        rcases Nat.lt_or_ge (i + 1) (a + k) with h2 | h2
        · exact h2
        · exfalso
          have := ha.2 (i - a) (by omega)
          rw [show a + (i - a) = i by omega, hc] at this
          cases this
      | false =>
        rw [br_false]
        unfold extent.Map_Find.j41 extent.Map_Find.j199
        rw [wrap_succ _ (by omega), wrap_succ _ (by omega)]
        by_cases he : run + 1 = k
        · rw [show (((run + 1 : Nat) : Int) == (k : Int)) = true from by simp; omega, br_true]
          rw [wrap_small (n := (i : Int) - (k : Int)) (by omega) (by omega), wrap_small (n := (i : Int) - (k : Int) + 1) (by omega) (by omega)]
          refine h _ (.inr ⟨by omega, .inr ⟨i + 1 - k, by omega, ?_, fun b hb2 hok => ?_⟩⟩)
          · rw [Int.toNat_natCast]
            refine ⟨by omega, fun j hj => ?_⟩
            by_cases hji : i + 1 - k + j = i
            · rw [hji]; exact hc
            · exact hf _ (by omega) (by omega)
          · rw [Int.toNat_natCast] at hok
            have := hno b hok
            omega
        · rw [show (((run + 1 : Nat) : Int) == (k : Int)) = false from by simp; omega, br_false]
          refine ih (i + 1) (run + 1) (by omega) (by omega) (by omega) (fun j h1 h2 => ?_) ?_ (fun a ha => ?_)
          · by_cases hji : j = i
            · rw [hji]; exact hc
            · exact hf j (by omega) (by omega)
          · rcases hb with hb | hb
            · exact .inl (by omega)
            · exact .inr (by rw [show i + 1 - (run + 1) - 1 = i - run - 1 by omega]; exact hb)
          · have h1 := hno a ha
            rcases Nat.lt_or_ge (i + 1) (a + k) with h2 | h2
            · exact h2
            · exfalso
              rcases hb with hb | hb
              · omega
              · have := ha.2 (i - run - 1 - a) (by omega)
                rw [show a + (i - run - 1 - a) = i - run - 1 by omega, hb] at this
                cases this
  exact ⟨u.length + 1, key u.length 0 0 (by omega) (by omega) (by omega) (fun j h1 h2 => by omega) (.inl rfl) (fun a ha => by omega)⟩

theorem left_law (u : List Bool) (x : Unit) (K : Int → Prop) (hu : u.length ≤ 1000000000000) (h : K ((u.count false : Nat) : Int)) : extent.Map_Left (u, x) K := by
  unfold extent.Map_Left
  have key : ∀ (m i : Nat), i + m = u.length → extent.Map_Left.l5 K (m + 1) (((u.take i).count false : Nat) : Int) u ((u.length : Nat) : Int) (i : Int) := by
    intro m
    induction m with
    | zero =>
      intro i hi
      unfold extent.Map_Left.l5
      rw [lt_false (by omega), br_false, List.take_of_length_le (by omega)]
      exact h
    | succ m ih =>
      intro i hi
      have hlt : i < u.length := by omega
      unfold extent.Map_Left.l5
      rw [lt_true (by omega), br_true]
      refine ⟨⟨by omega, by omega⟩, ?_⟩
      have ht : u.take (i + 1) = u.take i ++ [u[i]] := by rw [List.take_add_one, List.getElem?_eq_getElem hlt]; rfl
      have hc := List.count_le_length (a := false) (l := u.take i)
      rw [List.length_take] at hc
      have := ih (i + 1) (by omega)
      rw [ht, List.count_append] at this
      rw [ix_nat _ _ _ hlt]
      unfold extent.Map_Left.j75
      rw [wrap_succ i (by omega)]
      cases hb : u[i] with
      | true =>
        rw [hb] at this
        exact this
      | false =>
        rw [hb] at this
        rw [Bool.not_false, br_true, wrap_succ _ (by omega)]
        exact this
  exact ⟨u.length + 1, key u.length 0 (by omega)⟩

def spanS (len : Nat) (at_ n : Int) : Bool := decide (0 ≤ at_ ∧ 0 ≤ n ∧ at_ ≤ (len : Int) ∧ n ≤ (len : Int) - at_)
theorem span_law (u : List Bool) (x : Unit) (at_ n : Int) (K : Bool → Prop) (hu : u.length ≤ 1000000000000) (h : K (spanS u.length at_ n)) : extent.Map_span (u, x) at_ n K := by
  unfold extent.Map_span
  unfold spanS at h
  show br (decide (at_ ≥ 0)) (br (decide (n ≥ 0)) (br (decide (at_ ≤ (u.length : Int))) (K (decide (n ≤ IntKind.wrap .i64 ((u.length : Int) - at_)))) (K false)) (K false)) (K false)
  by_cases h1 : 0 ≤ at_
  · rw [decide_eq_true (by omega), br_true]
    by_cases h2 : 0 ≤ n
    · rw [decide_eq_true (by omega), br_true]
      by_cases h3 : at_ ≤ (u.length : Int)
      · rw [decide_eq_true h3, br_true, wrap_small (by omega) (by omega)]
        by_cases h4 : n ≤ (u.length : Int) - at_
        · rw [decide_eq_true h4]
          rw [decide_eq_true ⟨h1, h2, h3, h4⟩] at h
          exact h
        · rw [decide_eq_false h4]
          rw [decide_eq_false (fun h => h4 h.2.2.2)] at h
          exact h
      · rw [decide_eq_false h3, br_false]
        rw [decide_eq_false (fun h => h3 h.2.2.1)] at h
        exact h
    · rw [decide_eq_false (by omega), br_false]
      rw [decide_eq_false (fun h => h2 h.2.1)] at h
      exact h
  · rw [decide_eq_false (by omega), br_false]
    rw [decide_eq_false (fun h => h1 h.1)] at h
    exact h

def usedS (u : List Bool) (at_ : Int) : Bool := if 0 ≤ at_ then u.getD at_.toNat false else false
theorem used_law (u : List Bool) (x : Unit) (at_ : Int) (K : Bool → Prop) (hu : u.length ≤ 1000000000000) (h : K (usedS u at_)) : extent.Map_Used (u, x) at_ K := by
  unfold extent.Map_Used
  refine span_law u x at_ 1 _ hu ?_
  unfold spanS
  by_cases hs : 0 ≤ at_ ∧ at_ < (u.length : Int)
  · rw [decide_eq_true (by omega), br_true]
    refine ⟨hs, ?_⟩
    obtain ⟨a, rfl⟩ := Int.eq_ofNat_of_zero_le hs.1
    rw [ix_getD]
    unfold usedS at h
    rw [if_pos (by omega), Int.toNat_natCast] at h
    exact h
  · rw [decide_eq_false (by omega), br_false]
    unfold usedS at h
    split at h
    · rename_i h0
      have : u.length ≤ at_.toNat := by omega
      rw [List.getD_eq_getElem?_getD, List.getElem?_eq_none this] at h
      exact h
    · exact h
theorem len_law (u : List Bool) (x : Unit) (K : Int → Prop) (h : K ((u.length : Nat) : Int)) : extent.Map_Len (u, x) K := h

theorem new_law (n : Int) (K : MapH → List Bool → Prop) (hn : n ≤ 1000000000000) (h : K ((), ()) (List.replicate n.toNat false)) : extent.New n K := by
  unfold extent.New
  have e : (Go.Iv.maxInt n 0).toNat = n.toNat := by unfold Go.Iv.maxInt; split <;> omega
  have e1 : 0 ≤ Go.Iv.maxInt n 0 := by unfold Go.Iv.maxInt; split <;> omega
  have e2 : Go.Iv.maxInt n 0 ≤ 1000000000000 := by unfold Go.Iv.maxInt; split <;> omega
  rw [e]
  exact ⟨⟨rfl, e1, by omega, by omega⟩, h⟩

/-- So many places become b, from one on. -/
def fillS (u : List Bool) (a : Nat) (b : Bool) : Nat → List Bool
  | 0 => u
  | n + 1 => (fillS u a b n).set (a + n) b
theorem fillS_len {u : List Bool} {a : Nat} {b : Bool} : ∀ {n : Nat}, (fillS u a b n).length = u.length
  | 0 => rfl
  | n + 1 => by unfold fillS; rw [List.length_set, fillS_len]
theorem getD_set (u : List Bool) (i j : Nat) (b : Bool) : (u.set i b).getD j false = if i = j ∧ j < u.length then b else u.getD j false := by
  simp only [List.getD_eq_getElem?_getD, List.getElem?_set]
  by_cases h : i = j
  · subst h
    by_cases h2 : i < u.length
    · simp [h2]
    · simp [h2]
  · simp [h]
theorem fillS_get {u : List Bool} {a : Nat} {b : Bool} {j : Nat} : ∀ {n : Nat}, (fillS u a b n).getD j false = if a ≤ j ∧ j < a + n ∧ j < u.length then b else u.getD j false
  | 0 => by unfold fillS; rw [if_neg (by omega)]
  | n + 1 => by
    unfold fillS
    rw [getD_set, fillS_len, fillS_get]
    by_cases h1 : a + n = j ∧ j < u.length
    · rw [if_pos h1, if_pos (by omega)]
    · rw [if_neg h1]
      by_cases h2 : a ≤ j ∧ j < a + n ∧ j < u.length
      · rw [if_pos h2, if_pos (by omega)]
      · rw [if_neg h2, if_neg (by omega)]
/-- May it be done? -/
def canS (u : List Bool) (at_ n : Int) (b : Bool) : Bool := spanS u.length at_ n && (List.range n.toNat).all fun j => u.getD (at_.toNat + j) false != b
def turnS (u : List Bool) (at_ n : Int) (b : Bool) : List Bool := if canS u at_ n b = true then fillS u at_.toNat b n.toNat else u
theorem turnS_len {u : List Bool} {at_ n : Int} {b : Bool} : (turnS u at_ n b).length = u.length := by
  unfold turnS; split
  · exact fillS_len
  · rfl

theorem turn_law (u : List Bool) (x : MapH) (at_ n : Int) (b : Bool) (K : Bool → MapH → List Bool → Prop) (hu : u.length ≤ 1000000000000) (h : K (canS u at_ n b) x (turnS u at_ n b)) : extent.Map_turn at_ n b x u K := by
  unfold extent.Map_turn
  refine span_law u x.2 at_ n _ hu ?_
  unfold turnS canS at h
  cases hs : spanS u.length at_ n with
  | false =>
    rw [Bool.not_false, br_true]
    rw [hs, Bool.false_and] at h
    exact h
  | true =>
    rw [Bool.not_true, br_false]
    rw [hs, Bool.true_and] at h
    unfold spanS at hs
    have hs := of_decide_eq_true hs
    obtain ⟨a, rfl⟩ := Int.eq_ofNat_of_zero_le hs.1
    obtain ⟨k, rfl⟩ := Int.eq_ofNat_of_zero_le hs.2.1
    simp only [Int.toNat_natCast] at h
    rw [wrap_small (n := (a : Int) + (k : Int)) (by omega) (by omega)]
    rw [show ((a : Int) + (k : Int)) = ((a + k : Nat) : Int) from by omega]
    simp only [Int.toNat_natCast, Nat.add_sub_cancel_left]
    refine ⟨⟨by omega, by omega⟩, ⟨by omega, by omega⟩, ?_⟩
    have l10 : ∀ (K0 : MapH → List Bool → Prop), K0 x (fillS u a b k) → ∀ (m i : Nat), i + m = k → extent.Map_turn.l10 K0 (m + 1) (a : Int) b (k : Int) (i : Int) x (fillS u a b i) := by
      intro K0 hK m
      induction m with
      | zero =>
        intro i hi
        unfold extent.Map_turn.l10
        rw [lt_false (by omega), br_false, show i = k by omega]
        exact hK
      | succ m ih =>
        intro i hi
        unfold extent.Map_turn.l10
        rw [lt_true (by omega), br_true, wrap_small (n := (a : Int) + (i : Int)) (by omega) (by omega), wrap_succ i (by omega), fillS_len]
        refine ⟨⟨by omega, by omega⟩, by omega, ?_⟩
        rw [show ((a : Int) + (i : Int)).toNat = a + i from by omega]
        exact ih (i + 1) (by omega)
    have l4 : ∀ (m i : Nat), i + m = k → (∀ j, j < i → u.getD (a + j) false ≠ b) →
        extent.Map_turn.l4 K (fun at1 n2 taken3 o p => ∃ q, extent.Map_turn.l10 (fun o p => K true o p) q at1 taken3 n2 0 o p) (m + 1) (a : Int) (k : Int) b (a, k) ((k : Nat) : Int) (i : Int) x u := by
      intro m
      induction m with
      | zero =>
        intro i hi hall
        unfold extent.Map_turn.l4
        rw [lt_false (by omega), br_false]
        have he : ((List.range k).all fun j => u.getD (a + j) false != b) = true := by
          rw [List.all_eq_true]
          intro j hj
          rw [List.mem_range] at hj
          simpa using hall j (by omega)
        rw [he, if_pos rfl] at h
        exact ⟨k + 1, l10 _ h k 0 (by omega)⟩
      | succ m ih =>
        intro i hi hall
        unfold extent.Map_turn.l4
        rw [lt_true (by omega), br_true]
        refine ⟨⟨by omega, ?_⟩, ?_, ?_⟩
        · show (i : Int) < ((k : Nat) : Int)
          omega
        · show a + (i : Int).toNat < u.length
          omega
        · rw [eqT_bool, wrap_succ i (by omega)]
          show br (u.getD (a + (i : Int).toNat) false == b) _ _
          rw [Int.toNat_natCast]
          by_cases hb : u.getD (a + i) false = b
          · rw [show (u.getD (a + i) false == b) = true from by simpa using hb, br_true]
            have he : ((List.range k).all fun j => u.getD (a + j) false != b) = false := by
              rw [Bool.eq_false_iff]
              intro h
              rw [List.all_eq_true] at h
              have := h i (List.mem_range.2 (by omega))
              rw [hb] at this
              simp at this
            rw [he, if_neg (by simp)] at h
            exact h
          · rw [show (u.getD (a + i) false == b) = false from by simpa using hb, br_false]
            refine ih (i + 1) (by omega) fun j hj => ?_
            by_cases hji : j = i
            · rw [hji]; exact hb
            · exact hall j (by omega)
    exact ⟨k + 1, l4 k 0 (by omega) (fun j hj => by omega)⟩
theorem take_law (u : List Bool) (x : MapH) (at_ n : Int) (K : Bool → MapH → List Bool → Prop) (hu : u.length ≤ 1000000000000) (h : K (canS u at_ n true) x (turnS u at_ n true)) : extent.Map_Take at_ n x u K := turn_law u x at_ n true K hu h
theorem free_law (u : List Bool) (x : MapH) (at_ n : Int) (K : Bool → MapH → List Bool → Prop) (hu : u.length ≤ 1000000000000) (h : K (canS u at_ n false) x (turnS u at_ n false)) : extent.Map_Free at_ n x u K := turn_law u x at_ n false K hu h

theorem awake_law (K : Bool → Prop) (h : K true) : law06.awake K := by
  unfold law06.awake
  refine new_law 5 _ (by omega) (take_law _ _ _ _ _ (by simp) ?_)
  rw [show canS (List.replicate (5 : Int).toNat false) 1 2 true = true by decide, br_true, show turnS (List.replicate (5 : Int).toNat false) 1 2 true = [false, true, true, false, false] by decide]
  refine find_law _ _ _ _ (by simp) fun r hr => ?_
  have e : r = 3 := isFind_one hr (.inr ⟨by omega, .inr ⟨3, rfl, by decide, by decide⟩⟩)
  subst e
  rw [show ((3 : Int) == 3) = true from rfl, br_true]
  refine left_law _ _ _ (by simp) ?_
  exact h
end Go.Iw
/- ExtentBack: the plain law. -/
namespace Go.Iw
open Go.Iv
set_option linter.unusedVariables false
set_option linter.unusedSimpArgs false
def covI (I : List (Nat × Nat)) (j : Nat) : Prop := ∃ p ∈ I, p.1 ≤ j ∧ j < p.1 + p.2
/-- Just what these tell is taken; none of them meet. -/
structure Cov (u : List Bool) (n : Nat) (I : List (Nat × Nat)) : Prop where
  len : u.length = n
  get : ∀ j, j < n → (u.getD j false = true ↔ covI I j)
  bd : ∀ p ∈ I, 1 ≤ p.2 ∧ p.1 + p.2 ≤ n
  dis : I.Pairwise fun p q => ∀ j, ¬ (p.1 ≤ j ∧ j < p.1 + p.2 ∧ q.1 ≤ j ∧ j < q.1 + q.2)
theorem ok_can {u : List Bool} {a k : Nat} (h : okAt u a k) : canS u (a : Int) (k : Int) true = true := by
  unfold canS spanS
  have h1 := h.1
  rw [Bool.and_eq_true, decide_eq_true_eq, List.all_eq_true]
  refine ⟨⟨by omega, by omega, by omega, by omega⟩, fun j hj => ?_⟩
  rw [Int.toNat_natCast, h.2 j (by simpa using hj)]
  rfl
theorem cov_take {u : List Bool} {n : Nat} {I : List (Nat × Nat)} {a k : Nat} (h : Cov u n I) (ho : okAt u a k) (hk : 1 ≤ k) : Cov (fillS u a true k) n (I ++ [(a, k)]) where
  len := by rw [fillS_len, h.len]
  get := fun j hj => by
    rw [fillS_get, h.len]
    by_cases h1 : a ≤ j ∧ j < a + k ∧ j < n
    · rw [if_pos h1]
      exact ⟨fun _ => ⟨(a, k), by simp, h1.1, h1.2.1⟩, fun _ => rfl⟩
    · rw [if_neg h1, h.get j hj]
      constructor
      · rintro ⟨p, hp, h2⟩; exact ⟨p, by simp [hp], h2⟩
      · rintro ⟨p, hp, h2⟩
        rcases List.mem_append.1 hp with hp | hp
        · exact ⟨p, hp, h2⟩
        · simp at hp; subst hp; exact absurd ⟨h2.1, h2.2, hj⟩ h1
  bd := fun p hp => by
    rcases List.mem_append.1 hp with hp | hp
    · exact h.bd p hp
    · simp at hp; subst hp; exact ⟨hk, by have := ho.1; rw [h.len] at this; exact this⟩
  dis := by
    rw [List.pairwise_append]
    refine ⟨h.dis, by simp, fun p hp q hq j hj => ?_⟩
    simp at hq
    subst hq
    have h1 := ho.2 (j - a) (by have := hj.2.2; simp at this; omega)
    have h2 : a ≤ j := hj.2.2.1
    have h3 := (h.bd p hp).2
    rw [show a + (j - a) = j by omega] at h1
    have := (h.get j (by omega)).2 ⟨p, hp, hj.1, hj.2.1⟩
    rw [h1] at this; cases this
theorem cov_free {u : List Bool} {n : Nat} {I : List (Nat × Nat)} {p : Nat × Nat} (h : Cov u n (p :: I)) : canS u (p.1 : Int) (p.2 : Int) false = true ∧ Cov (fillS u p.1 false p.2) n I ∧ canS (fillS u p.1 false p.2) (p.1 : Int) (p.2 : Int) false = false := by
  obtain ⟨b1, b2⟩ := h.bd p (List.mem_cons_self ..)
  refine ⟨?_, ⟨by rw [fillS_len, h.len], fun j hj => ?_, fun q hq => h.bd q (List.mem_cons_of_mem _ hq), (List.pairwise_cons.1 h.dis).2⟩, ?_⟩
  · unfold canS spanS
    rw [Bool.and_eq_true, decide_eq_true_eq, List.all_eq_true, h.len]
    refine ⟨⟨by omega, by omega, by omega, by omega⟩, fun j hj => ?_⟩
    have hj : j < p.2 := by simpa using hj
    rw [Int.toNat_natCast, (h.get (p.1 + j) (by omega)).2 ⟨p, List.mem_cons_self .., by omega, by omega⟩]
    rfl
  · rw [fillS_get, h.len]
    by_cases h1 : p.1 ≤ j ∧ j < p.1 + p.2 ∧ j < n
    · rw [if_pos h1]
      refine ⟨fun e => (by cases e), fun hx => ?_⟩
      obtain ⟨q, hq, h2⟩ := hx
      exact absurd ⟨h1.1, h1.2.1, h2.1, h2.2⟩ ((List.pairwise_cons.1 h.dis).1 q hq j)
    · rw [if_neg h1, h.get j hj]
      constructor
      · rintro ⟨q, hq, h2⟩
        rcases List.mem_cons.1 hq with rfl | hq
        · exact absurd ⟨h2.1, h2.2, hj⟩ h1
        · exact ⟨q, hq, h2⟩
      · rintro ⟨q, hq, h2⟩; exact ⟨q, List.mem_cons_of_mem _ hq, h2⟩
  · unfold canS
    rw [Bool.and_eq_false_iff]
    right
    rw [Bool.eq_false_iff]
    intro ha
    rw [List.all_eq_true] at ha
    have := ha 0 (List.mem_range.2 (by omega))
    rw [Int.toNat_natCast, fillS_get, h.len, if_pos (by omega)] at this
    cases this
theorem cov_nil {u : List Bool} {n : Nat} (h : Cov u n []) : u.count false = n := by
  rw [List.count_eq_length.2, h.len]
  intro b hb
  obtain ⟨j, hj, rfl⟩ := List.getElem_of_mem hb
  have := h.get j (by rw [← h.len]; exact hj)
  rw [List.getD_eq_getElem?_getD, List.getElem?_eq_getElem hj] at this
  cases hx : u[j] with
  | false => rfl
  | true =>
    obtain ⟨p, hp, _⟩ := this.1 (by simp [hx])
    simp at hp
theorem ixN_map {A : List (Nat × Nat)} (f : Nat × Nat → Nat) {i : Nat} (h : i < A.length) : ixN (0 : Int) (A.map fun p => (f p : Int)) i = (f A[i] : Int) := by
  simp [ixN, List.getD_eq_getElem?_getD, h]

theorem extentBack (by_ : Nat → Nat) (n : Int) (l : List Int) (w0 : Wf by_ (.int .u8) n) (w1 : Wf by_ (.sl 5 (.int .u8)) l) (K : Bool → Prop) (h : K true) : law06.ExtentBack n l K := by
  unfold law06.ExtentBack law06.ExtentBack.j4
  refine awake_law _ ?_
  rw [Bool.not_true, br_false]
  by_cases hlen : l.length > 20
  · rw [decide_eq_true (by omega), br_true]
    exact awake_law _ h
  rw [decide_eq_false (by omega), br_false]
  have hn : 0 ≤ n ∧ n ≤ 255 := w0
  obtain ⟨k, rfl⟩ := Int.eq_ofNat_of_zero_le hn.1
  rw [wrap_small (n := (k : Int)) (by omega) (by omega)]
  refine new_law _ _ (by omega) ?_
  rw [Int.toNat_natCast]
  let f : Nat × Nat → Int := fun p => (p.1 : Int)
  let g : Nat × Nat → Int := fun p => (p.2 : Int)
  have l14 : ∀ (K0 : Bool → Prop) (K1 : Int → MapH → List Bool → Prop) (A : List (Nat × Nat)), (∀ u, Cov u k [] → K1 (k : Int) ((), ()) u) → ∀ (m i : Nat) (u : List Bool), i + m = A.length → A.length ≤ 20 → Cov u k (A.drop i) →
      law06.ExtentBack.l14 K0 K1 (m + 1) (k : Int) (i : Int) (A.map f) (A.map g) ((), ()) u := by
    intro K0 K1 A hK m
    induction m with
    | zero =>
      intro i u hi hA hc
      unfold law06.ExtentBack.l14
      rw [List.length_map, lt_false (by omega), br_false]
      rw [List.drop_of_length_le (by omega)] at hc
      exact hK u hc
    | succ m ih =>
      intro i u hi hA hc
      have hlt : i < A.length := by omega
      rw [List.drop_eq_getElem_cons hlt] at hc
      obtain ⟨c1, c2, c3⟩ := cov_free hc
      have hul := hc.len
      have hul2 := c2.len
      unfold law06.ExtentBack.l14
      rw [List.length_map, List.length_map, lt_true (by omega), br_true, Int.toNat_natCast, ixN_map (fun p => p.1) hlt, ixN_map (fun p => p.2) hlt]
      refine ⟨⟨by omega, by omega⟩, by omega, ⟨by omega, by omega⟩, by omega, ?_⟩
      refine free_law _ _ _ _ _ (by omega) ?_
      rw [c1, Bool.not_true, br_false]
      refine ⟨⟨by omega, by omega⟩, by omega, ⟨by omega, by omega⟩, by omega, ?_⟩
      rw [show turnS u (A[i].1 : Int) (A[i].2 : Int) false = fillS u A[i].1 false A[i].2 from by unfold turnS; rw [if_pos c1]; simp only [Int.toNat_natCast]]
      refine free_law _ _ _ _ _ (by omega) ?_
      rw [show turnS (fillS u A[i].1 false A[i].2) (A[i].1 : Int) (A[i].2 : Int) false = fillS u A[i].1 false A[i].2 from by unfold turnS; rw [if_neg (by rw [c3]; simp)]]
      rw [c3]
      unfold law06.ExtentBack.j34
      rw [br_false, wrap_succ i (by omega)]
      exact ih (i + 1) _ (by omega) hA c2
  have l6 : ∀ (K0 : Int → List Int → List Int → MapH → List Bool → Prop), (∀ (A : List (Nat × Nat)) u, A.length ≤ 20 → Cov u k A → K0 (k : Int) (A.map f) (A.map g) ((), ()) u) → ∀ (m i : Nat) (A : List (Nat × Nat)) (u : List Bool), i + m = l.length → A.length ≤ i → Cov u k A →
      law06.ExtentBack.l6 K0 (m + 1) (k : Int) l (i : Int) (A.map f) (A.map g) ((), ()) u := by
    intro K0 hK m
    induction m with
    | zero =>
      intro i A u hi hA hc
      unfold law06.ExtentBack.l6
      rw [lt_false (by omega), br_false]
      exact hK A u (by omega) hc
    | succ m ih =>
      intro i A u hi hA hc
      have hlt : i < l.length := by omega
      have hul := hc.len
      unfold law06.ExtentBack.l6
      rw [lt_true hlt, br_true]
      refine ⟨⟨by omega, by omega⟩, by omega, ?_⟩
      rw [ix_nat _ _ _ hlt]
      have hx : 0 ≤ l[i] ∧ l[i] ≤ 255 := w1.1 l[i] (List.getElem_mem hlt)
      obtain ⟨c, hcx⟩ := Int.eq_ofNat_of_zero_le hx.1
      rw [hcx]
      rw [hcx] at hx
      have hm : Int.tmod (c : Int) 12 = ((c % 12 : Nat) : Int) := by rw [Int.tmod_eq_emod_of_nonneg (by omega)]; omega
      have hm' : c % 12 < 12 := Nat.mod_lt _ (by omega)
      rw [hm, wrap_small (n := ((c % 12 : Nat) : Int)) (by omega) (by omega), wrap_small (n := 1 + ((c % 12 : Nat) : Int)) (by omega) (by omega)]
      rw [show (1 : Int) + ((c % 12 : Nat) : Int) = ((c % 12 + 1 : Nat) : Int) from by omega]
      obtain ⟨q, hq⟩ : ∃ q, c % 12 + 1 = q := ⟨_, rfl⟩
      rw [hq]
      refine find_law _ _ _ _ (by omega) fun r hr => ?_
      rcases hr with ⟨h1, h2⟩ | ⟨h1, ⟨h2, h3⟩ | ⟨a, h2, h3, h4⟩⟩
      · omega
      · subst h2
        rw [decide_eq_false (by omega), br_false]
        unfold law06.ExtentBack.j22 law06.ExtentBack.j107
        rw [br_false, wrap_succ i (by omega)]
        exact ih (i + 1) A u (by omega) (by omega) hc
      · subst h2
        rw [Int.toNat_natCast] at h3
        rw [decide_eq_true (by omega), br_true]
        refine take_law _ _ _ _ _ (by omega) ?_
        have c1 := ok_can h3
        rw [c1, show turnS u (a : Int) (q : Int) true = fillS u a true q from by unfold turnS; rw [if_pos c1]; simp only [Int.toNat_natCast]]
        unfold law06.ExtentBack.j22 law06.ExtentBack.j107
        rw [br_true, wrap_succ i (by omega)]
        simp only [List.length_map, List.length_cons, List.length_nil]
        refine ⟨⟨by omega, by omega⟩, ⟨by omega, by omega⟩, ?_⟩
        have := ih (i + 1) (A ++ [(a, q)]) (fillS u a true q) (by omega) (by simp; omega) (cov_take hc h3 (by omega))
        rw [List.map_append, List.map_append] at this
        exact this
  have c0 : Cov (List.replicate k false) k [] := by
    refine ⟨by simp, fun j hj => ⟨fun e => ?_, fun e => ?_⟩, by simp, List.Pairwise.nil⟩
    · simp [List.getD_eq_getElem?_getD, hj] at e
    · obtain ⟨p, hp, _⟩ := e
      simp at hp
  refine ⟨l.length + 1, l6 _ (fun A u hA hc => ?_) l.length 0 [] (List.replicate k false) (by omega) (by simp) c0⟩
  refine ⟨A.length + 1, l14 _ _ A (fun v hv => ?_) A.length 0 u (by omega) hA hc⟩
  have := hv.len
  refine left_law _ _ _ (by omega) ?_
  rw [cov_nil hv, wrap_small (n := (k : Int)) (by omega) (by omega)]
  simpa using h
end Go.Iw
