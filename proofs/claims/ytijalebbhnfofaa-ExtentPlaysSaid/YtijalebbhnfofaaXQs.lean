/- Plain laws, one behind the other. -/
import Derived.Test.YtijalebbhnfofaaXPl
import Derived.Test.YtijalebbhnfofaaJvK
/- Plain laws: places that are taken, and freed. -/
namespace Go.Iw
open Go.Iv
set_option linter.unusedVariables false
set_option linter.unusedSimpArgs false

@[simp] theorem br_true (X Y : Prop) : br true X Y = X := rfl
@[simp] theorem br_false (X Y : Prop) : br false X Y = Y := rfl
theorem wrap_small {n : Int} (h1 : -9223372036854775808 ≤ n) (h2 : n ≤ 9223372036854775807) : IntKind.wrap .i64 n = n := by
  rw [IntKind.wrap_i64]; omega
theorem wrap_small_u8 {n : Int} (h1 : 0 ≤ n) (h2 : n ≤ 255) : IntKind.wrap .u8 n = n := by
  rw [IntKind.wrap_u8]; omega
theorem ix_nat {α : Type} (z : α) (c : List α) (i : Nat) (h : i < c.length) : ix z c (i : Int) = c[i] := by
  simp [ix, List.getD_eq_getElem?_getD, List.getElem?_eq_getElem h]
theorem ix_getD {α : Type} (z : α) (c : List α) (i : Nat) : ix z c (i : Int) = c.getD i z := by
  simp [ix]
theorem wrap_succ (i : Nat) (h : i < 9223372036854775807) : IntKind.wrap .i64 ((i : Int) + 1) = ((i + 1 : Nat) : Int) := by
  rw [wrap_small (by omega) (by omega)]; omega
theorem lt_true {i n : Nat} (h : i < n) : decide ((i : Int) < (n : Int)) = true := by simp; omega
theorem lt_false {i n : Nat} (h : n ≤ i) : decide ((i : Int) < (n : Int)) = false := by simp; omega
theorem eqT_bool (x y : Bool) : eqT .bool x y = (x == y) := by cases x <;> cases y <;> rfl

/-- So many places are free from one on. -/
def okAt (u : List Bool) (a n : Nat) : Prop := a + n ≤ u.length ∧ ∀ j, j < n → u.getD (a + j) false = false
instance (u : List Bool) (a n : Nat) : Decidable (okAt u a n) := by unfold okAt; infer_instance
/-- The first place from which so many are free. -/
def IsFind (u : List Bool) (n : Int) (r : Int) : Prop :=
  (n < 1 ∧ r = -1) ∨ (1 ≤ n ∧ ((r = -1 ∧ ∀ a, ¬ okAt u a n.toNat) ∨ ∃ a : Nat, r = (a : Int) ∧ okAt u a n.toNat ∧ ∀ b, b < a → ¬ okAt u b n.toNat))
theorem isFind_one {u : List Bool} {n r s : Int} (h : IsFind u n r) (k : IsFind u n s) : r = s := by
  rcases h with ⟨h1, h2⟩ | ⟨h1, ⟨h2, h3⟩ | ⟨a, h2, h3, h4⟩⟩ <;> rcases k with ⟨k1, k2⟩ | ⟨k1, ⟨k2, k3⟩ | ⟨b, k2, k3, k4⟩⟩ <;> try omega
  · exact absurd k3 (h3 b)
  · exact absurd h3 (k3 a)
  · have : a = b := by
      rcases Nat.lt_trichotomy a b with h | h | h
      · exact absurd h3 (k4 a h)
      · exact h
      · exact absurd k3 (h4 b h)
    omega

theorem find_law (u : List Bool) (x : Unit) (n : Int) (K : Int → Prop) (hu : u.length ≤ 1000000000000) (h : ∀ r, IsFind u n r → K r) : extent.Map_Find (u, x) n K := by
  unfold extent.Map_Find extent.Map_Find.j6
  by_cases hn : n < 1
  · rw [decide_eq_true hn, br_true]
    exact h _ (.inl ⟨hn, rfl⟩)
  rw [decide_eq_false hn, br_false]
  obtain ⟨k, rfl⟩ := Int.eq_ofNat_of_zero_le (show 0 ≤ n by omega)
  have hk : 1 ≤ k := by omega
  have key : ∀ (m i run : Nat), i + m = u.length → run ≤ i → run < k → (∀ j, i - run ≤ j → j < i → u.getD j false = false) → (run = i ∨ u.getD (i - run - 1) false = true) → (∀ a, okAt u a k → i < a + k) →
      extent.Map_Find.l5 K (K (-1)) (m + 1) (k : Int) (run : Int) u ((u.length : Nat) : Int) (i : Int) := by
    intro m
    induction m with
    | zero =>
      intro i run hi hr hrk hf hb hno
      unfold extent.Map_Find.l5
      rw [lt_false (by omega), br_false]
      refine h _ (.inr ⟨by omega, .inl ⟨rfl, fun a ha => ?_⟩⟩)
      rw [Int.toNat_natCast] at ha
      have := hno a ha
      have := ha.1
      omega
    | succ m ih =>
      intro i run hi hr hrk hf hb hno
      unfold extent.Map_Find.l5
      rw [lt_true (by omega), br_true]
      refine ⟨⟨by omega, by omega⟩, ?_⟩
      rw [ix_getD]
      cases hc : u.getD i false with
      | true =>
        rw [br_true]
        unfold extent.Map_Find.j41 extent.Map_Find.j199
        rw [show ((0 : Int) == (k : Int)) = false from by simp; omega, br_false, wrap_succ _ (by omega)]
        refine ih (i + 1) 0 (by omega) (by omega) (by omega) (fun j h1 h2 => by omega) (.inr (by simpa using hc)) (fun a ha => ?_)
        have h1 := hno a ha
        rcases Nat.lt_or_ge (i + 1) (a + k) with h2 | h2
        · exact h2
        · exfalso
          have := ha.2 (i - a) (by omega)
          rw [show a + (i - a) = i by omega, hc] at this
          cases this
      | false =>
        rw [br_false]
        unfold extent.Map_Find.j41 extent.Map_Find.j199
        rw [wrap_succ _ (by omega), wrap_succ _ (by omega)]
        by_cases he : run + 1 = k
        · rw [show (((run + 1 : Nat) : Int) == (k : Int)) = true from by simp; omega, br_true]
          rw [wrap_small (n := (i : Int) - (k : Int)) (by omega) (by omega), wrap_small (n := (i : Int) - (k : Int) + 1) (by omega) (by omega)]
          refine h _ (.inr ⟨by omega, .inr ⟨i + 1 - k, by omega, ?_, fun b hb2 hok => ?_⟩⟩)
          · rw [Int.toNat_natCast]
            refine ⟨by omega, fun j hj => ?_⟩
            by_cases hji : i + 1 - k + j = i
            · rw [hji]; exact hc
            · exact hf _ (by omega) (by omega)
          · rw [Int.toNat_natCast] at hok
            have := hno b hok
            omega
        · rw [show (((run + 1 : Nat) : Int) == (k : Int)) = false from by simp; omega, br_false]
          refine ih (i + 1) (run + 1) (by omega) (by omega) (by omega) (fun j h1 h2 => ?_) ?_ (fun a ha => ?_)
          · by_cases hji : j = i
            · rw [hji]; exact hc
            · exact hf j (by omega) (by omega)
          · rcases hb with hb | hb
            · exact .inl (by omega)
            · exact .inr (by rw [show i + 1 - (run + 1) - 1 = i - run - 1 by omega]; exact hb)
          · have h1 := hno a ha
            rcases Nat.lt_or_ge (i + 1) (a + k) with h2 | h2
            · exact h2
            · exfalso
              rcases hb with hb | hb
              · omega
              · have := ha.2 (i - run - 1 - a) (by omega)
                rw [show a + (i - run - 1 - a) = i - run - 1 by omega, hb] at this
                cases this
  exact ⟨u.length + 1, key u.length 0 0 (by omega) (by omega) (by omega) (fun j h1 h2 => by omega) (.inl rfl) (fun a ha => by omega)⟩

theorem left_law (u : List Bool) (x : Unit) (K : Int → Prop) (hu : u.length ≤ 1000000000000) (h : K ((u.count false : Nat) : Int)) : extent.Map_Left (u, x) K := by
  unfold extent.Map_Left
  have key : ∀ (m i : Nat), i + m = u.length → extent.Map_Left.l5 K (m + 1) (((u.take i).count false : Nat) : Int) u ((u.length : Nat) : Int) (i : Int) := by
    intro m
    induction m with
    | zero =>
      intro i hi
      unfold extent.Map_Left.l5
      rw [lt_false (by omega), br_false, List.take_of_length_le (by omega)]
      exact h
    | succ m ih =>
      intro i hi
      have hlt : i < u.length := by omega
      unfold extent.Map_Left.l5
      rw [lt_true (by omega), br_true]
      refine ⟨⟨by omega, by omega⟩, ?_⟩
      have ht : u.take (i + 1) = u.take i ++ [u[i]] := by rw [List.take_add_one, List.getElem?_eq_getElem hlt]; rfl
      have hc := List.count_le_length (a := false) (l := u.take i)
      rw [List.length_take] at hc
      have := ih (i + 1) (by omega)
      rw [ht, List.count_append] at this
      rw [ix_nat _ _ _ hlt]
      unfold extent.Map_Left.j75
      rw [wrap_succ i (by omega)]
      cases hb : u[i] with
      | true =>
        rw [hb] at this
        exact this
      | false =>
        rw [hb] at this
        rw [Bool.not_false, br_true, wrap_succ _ (by omega)]
        exact this
  exact ⟨u.length + 1, key u.length 0 (by omega)⟩

def spanS (len : Nat) (at_ n : Int) : Bool := decide (0 ≤ at_ ∧ 0 ≤ n ∧ at_ ≤ (len : Int) ∧ n ≤ (len : Int) - at_)
theorem span_law (u : List Bool) (x : Unit) (at_ n : Int) (K : Bool → Prop) (hu : u.length ≤ 1000000000000) (h : K (spanS u.length at_ n)) : extent.Map_span (u, x) at_ n K := by
  unfold extent.Map_span
  unfold spanS at h
  show br (decide (at_ ≥ 0)) (br (decide (n ≥ 0)) (br (decide (at_ ≤ (u.length : Int))) (K (decide (n ≤ IntKind.wrap .i64 ((u.length : Int) - at_)))) (K false)) (K false)) (K false)
  by_cases h1 : 0 ≤ at_
  · rw [decide_eq_true (by omega), br_true]
    by_cases h2 : 0 ≤ n
    · rw [decide_eq_true (by omega), br_true]
      by_cases h3 : at_ ≤ (u.length : Int)
      · rw [decide_eq_true h3, br_true, wrap_small (by omega) (by omega)]
        by_cases h4 : n ≤ (u.length : Int) - at_
        · rw [decide_eq_true h4]
          rw [decide_eq_true ⟨h1, h2, h3, h4⟩] at h
          exact h
        · rw [decide_eq_false h4]
          rw [decide_eq_false (fun h => h4 h.2.2.2)] at h
          exact h
      · rw [decide_eq_false h3, br_false]
        rw [decide_eq_false (fun h => h3 h.2.2.1)] at h
        exact h
    · rw [decide_eq_false (by omega), br_false]
      rw [decide_eq_false (fun h => h2 h.2.1)] at h
      exact h
  · rw [decide_eq_false (by omega), br_false]
    rw [decide_eq_false (fun h => h1 h.1)] at h
    exact h

def usedS (u : List Bool) (at_ : Int) : Bool := if 0 ≤ at_ then u.getD at_.toNat false else false
theorem used_law (u : List Bool) (x : Unit) (at_ : Int) (K : Bool → Prop) (hu : u.length ≤ 1000000000000) (h : K (usedS u at_)) : extent.Map_Used (u, x) at_ K := by
  unfold extent.Map_Used
  refine span_law u x at_ 1 _ hu ?_
  unfold spanS
  by_cases hs : 0 ≤ at_ ∧ at_ < (u.length : Int)
  · rw [decide_eq_true (by omega), br_true]
    refine ⟨hs, ?_⟩
    obtain ⟨a, rfl⟩ := Int.eq_ofNat_of_zero_le hs.1
    rw [ix_getD]
    unfold usedS at h
    rw [if_pos (by omega), Int.toNat_natCast] at h
    exact h
  · rw [decide_eq_false (by omega), br_false]
    unfold usedS at h
    split at h
    · rename_i h0
      have : u.length ≤ at_.toNat := by omega
      rw [List.getD_eq_getElem?_getD, List.getElem?_eq_none this] at h
      exact h
    · exact h
theorem len_law (u : List Bool) (x : Unit) (K : Int → Prop) (h : K ((u.length : Nat) : Int)) : extent.Map_Len (u, x) K := h

theorem new_law (n : Int) (K : MapH → List Bool → Prop) (hn : n ≤ 1000000000000) (h : K ((), ()) (List.replicate n.toNat false)) : extent.New n K := by
  unfold extent.New
  have e : (Go.Iv.maxInt n 0).toNat = n.toNat := by unfold Go.Iv.maxInt; split <;> omega
  have e1 : 0 ≤ Go.Iv.maxInt n 0 := by unfold Go.Iv.maxInt; split <;> omega
  have e2 : Go.Iv.maxInt n 0 ≤ 1000000000000 := by unfold Go.Iv.maxInt; split <;> omega
  rw [e]
  exact ⟨⟨rfl, e1, by omega, by omega⟩, h⟩

/-- So many places become b, from one on. -/
def fillS (u : List Bool) (a : Nat) (b : Bool) : Nat → List Bool
  | 0 => u
  | n + 1 => (fillS u a b n).set (a + n) b
theorem fillS_len {u : List Bool} {a : Nat} {b : Bool} : ∀ {n : Nat}, (fillS u a b n).length = u.length
  | 0 => rfl
  | n + 1 => by unfold fillS; rw [List.length_set, fillS_len]
theorem getD_set (u : List Bool) (i j : Nat) (b : Bool) : (u.set i b).getD j false = if i = j ∧ j < u.length then b else u.getD j false := by
  simp only [List.getD_eq_getElem?_getD, List.getElem?_set]
  by_cases h : i = j
  · subst h
    by_cases h2 : i < u.length
    · simp [h2]
    · simp [h2]
  · simp [h]
theorem fillS_get {u : List Bool} {a : Nat} {b : Bool} {j : Nat} : ∀ {n : Nat}, (fillS u a b n).getD j false = if a ≤ j ∧ j < a + n ∧ j < u.length then b else u.getD j false
  | 0 => by unfold fillS; rw [if_neg (by omega)]
  | n + 1 => by
    unfold fillS
    rw [getD_set, fillS_len, fillS_get]
    by_cases h1 : a + n = j ∧ j < u.length
    · rw [if_pos h1, if_pos (by omega)]
    · rw [if_neg h1]
      by_cases h2 : a ≤ j ∧ j < a + n ∧ j < u.length
      · rw [if_pos h2, if_pos (by omega)]
      · rw [if_neg h2, if_neg (by omega)]
/-- May it be done? -/
def canS (u : List Bool) (at_ n : Int) (b : Bool) : Bool := spanS u.length at_ n && (List.range n.toNat).all fun j => u.getD (at_.toNat + j) false != b
def turnS (u : List Bool) (at_ n : Int) (b : Bool) : List Bool := if canS u at_ n b = true then fillS u at_.toNat b n.toNat else u
theorem turnS_len {u : List Bool} {at_ n : Int} {b : Bool} : (turnS u at_ n b).length = u.length := by
  unfold turnS; split
  · exact fillS_len
  · rfl

theorem turn_law (u : List Bool) (x : MapH) (at_ n : Int) (b : Bool) (K : Bool → MapH → List Bool → Prop) (hu : u.length ≤ 1000000000000) (h : K (canS u at_ n b) x (turnS u at_ n b)) : extent.Map_turn at_ n b x u K := by
  unfold extent.Map_turn
  refine span_law u x.2 at_ n _ hu ?_
  unfold turnS canS at h
  cases hs : spanS u.length at_ n with
  | false =>
    rw [Bool.not_false, br_true]
    rw [hs, Bool.false_and] at h
    exact h
  | true =>
    rw [Bool.not_true, br_false]
    rw [hs, Bool.true_and] at h
    unfold spanS at hs
    have hs := of_decide_eq_true hs
    obtain ⟨a, rfl⟩ := Int.eq_ofNat_of_zero_le hs.1
    obtain ⟨k, rfl⟩ := Int.eq_ofNat_of_zero_le hs.2.1
    simp only [Int.toNat_natCast] at h
    rw [wrap_small (n := (a : Int) + (k : Int)) (by omega) (by omega)]
    rw [show ((a : Int) + (k : Int)) = ((a + k : Nat) : Int) from by omega]
    simp only [Int.toNat_natCast, Nat.add_sub_cancel_left]
    refine ⟨⟨by omega, by omega⟩, ⟨by omega, by omega⟩, ?_⟩
    have l10 : ∀ (K0 : MapH → List Bool → Prop), K0 x (fillS u a b k) → ∀ (m i : Nat), i + m = k → extent.Map_turn.l10 K0 (m + 1) (a : Int) b (k : Int) (i : Int) x (fillS u a b i) := by
      intro K0 hK m
      induction m with
      | zero =>
        intro i hi
        unfold extent.Map_turn.l10
        rw [lt_false (by omega), br_false, show i = k by omega]
        exact hK
      | succ m ih =>
        intro i hi
        unfold extent.Map_turn.l10
        rw [lt_true (by omega), br_true, wrap_small (n := (a : Int) + (i : Int)) (by omega) (by omega), wrap_succ i (by omega), fillS_len]
        refine ⟨⟨by omega, by omega⟩, by omega, ?_⟩
        rw [show ((a : Int) + (i : Int)).toNat = a + i from by omega]
        exact ih (i + 1) (by omega)
    have l4 : ∀ (m i : Nat), i + m = k → (∀ j, j < i → u.getD (a + j) false ≠ b) →
        extent.Map_turn.l4 K (fun at1 n2 taken3 o p => ∃ q, extent.Map_turn.l10 (fun o p => K true o p) q at1 taken3 n2 0 o p) (m + 1) (a : Int) (k : Int) b (a, k) ((k : Nat) : Int) (i : Int) x u := by
      intro m
      induction m with
      | zero =>
        intro i hi hall
        unfold extent.Map_turn.l4
        rw [lt_false (by omega), br_false]
        have he : ((List.range k).all fun j => u.getD (a + j) false != b) = true := by
          rw [List.all_eq_true]
          intro j hj
          rw [List.mem_range] at hj
          simpa using hall j (by omega)
        rw [he, if_pos rfl] at h
        exact ⟨k + 1, l10 _ h k 0 (by omega)⟩
      | succ m ih =>
        intro i hi hall
        unfold extent.Map_turn.l4
        rw [lt_true (by omega), br_true]
        refine ⟨⟨by omega, ?_⟩, ?_, ?_⟩
        · show (i : Int) < ((k : Nat) : Int)
          omega
        · show a + (i : Int).toNat < u.length
          omega
        · rw [eqT_bool, wrap_succ i (by omega)]
          show br (u.getD (a + (i : Int).toNat) false == b) _ _
          rw [Int.toNat_natCast]
          by_cases hb : u.getD (a + i) false = b
          · rw [show (u.getD (a + i) false == b) = true from by simpa using hb, br_true]
            have he : ((List.range k).all fun j => u.getD (a + j) false != b) = false := by
              rw [Bool.eq_false_iff]
              intro h
              rw [List.all_eq_true] at h
              have := h i (List.mem_range.2 (by omega))
              rw [hb] at this
              simp at this
            rw [he, if_neg (by simp)] at h
            exact h
          · rw [show (u.getD (a + i) false == b) = false from by simpa using hb, br_false]
            refine ih (i + 1) (by omega) fun j hj => ?_
            by_cases hji : j = i
            · rw [hji]; exact hb
            · exact hall j (by omega)
    exact ⟨k + 1, l4 k 0 (by omega) (fun j hj => by omega)⟩
theorem take_law (u : List Bool) (x : MapH) (at_ n : Int) (K : Bool → MapH → List Bool → Prop) (hu : u.length ≤ 1000000000000) (h : K (canS u at_ n true) x (turnS u at_ n true)) : extent.Map_Take at_ n x u K := turn_law u x at_ n true K hu h
theorem free_law (u : List Bool) (x : MapH) (at_ n : Int) (K : Bool → MapH → List Bool → Prop) (hu : u.length ≤ 1000000000000) (h : K (canS u at_ n false) x (turnS u at_ n false)) : extent.Map_Free at_ n x u K := turn_law u x at_ n false K hu h

theorem awake_law (K : Bool → Prop) (h : K true) : law06.awake K := by
  unfold law06.awake
  refine new_law 5 _ (by omega) (take_law _ _ _ _ _ (by simp) ?_)
  rw [show canS (List.replicate (5 : Int).toNat false) 1 2 true = true by decide, br_true, show turnS (List.replicate (5 : Int).toNat false) 1 2 true = [false, true, true, false, false] by decide]
  refine find_law _ _ _ _ (by simp) fun r hr => ?_
  have e : r = 3 := isFind_one hr (.inr ⟨by omega, .inr ⟨3, rfl, by decide, by decide⟩⟩)
  subst e
  rw [show ((3 : Int) == 3) = true from rfl, br_true]
  refine left_law _ _ _ (by simp) ?_
  exact h
end Go.Iw
/- ExtentPlays: the plain law. -/
namespace Go.Iw
open Go.Iv
set_option linter.unusedVariables false
set_option linter.unusedSimpArgs false
theorem ixN_getD {α : Type} (z : α) (c : List α) (i : Nat) : ixN z c i = c.getD i z := rfl
/-- So many, at least one, are free from one on. -/
def okI (u : List Bool) (a : Nat) (N : Int) : Prop := 1 ≤ N ∧ okAt u a N.toNat
instance (u : List Bool) (a : Nat) (N : Int) : Decidable (okI u a N) := by unfold okI; infer_instance
/-- The first such place behind one. -/
def IsW (u : List Bool) (N : Int) (c : Nat) (want : Int) : Prop :=
  (want = -1 ∧ ∀ a, c ≤ a → ¬ okI u a N) ∨ (∃ a : Nat, want = (a : Int) ∧ okI u a N ∧ c ≤ a ∧ ∀ b, c ≤ b → b < a → ¬ okI u b N)
theorem isW_find {u : List Bool} {N want : Int} (h : IsW u N 0 want) : IsFind u N want := by
  unfold IsFind
  by_cases hN : 1 ≤ N
  · refine .inr ⟨hN, ?_⟩
    rcases h with ⟨h1, h2⟩ | ⟨a, h1, h2, h3, h4⟩
    · exact .inl ⟨h1, fun a ha => h2 a (Nat.zero_le a) ⟨hN, ha⟩⟩
    · exact .inr ⟨a, h1, h2.2, fun b hb ho => h4 b (Nat.zero_le b) hb ⟨hN, ho⟩⟩
  · refine .inl ⟨by omega, ?_⟩
    rcases h with ⟨h1, h2⟩ | ⟨a, h1, h2, h3, h4⟩
    · exact h1
    · exact absurd h2.1 hN
theorem isW_step {u : List Bool} {N want : Int} {c : Nat} (h : IsW u N (c + 1) want) : IsW u N c (if okI u c N then (c : Int) else want) := by
  split
  · rename_i ho
    exact .inr ⟨c, rfl, ho, Nat.le_refl c, fun b h1 h2 => by omega⟩
  · rename_i ho
    rcases h with ⟨h1, h2⟩ | ⟨a, h1, h2, h3, h4⟩
    · refine .inl ⟨h1, fun a ha => ?_⟩
      rcases Nat.eq_or_lt_of_le ha with rfl | h5
      · exact ho
      · exact h2 a h5
    · refine .inr ⟨a, h1, h2, by omega, fun b hb hlt => ?_⟩
      rcases Nat.eq_or_lt_of_le hb with rfl | h5
      · exact ho
      · exact h4 b h5 hlt

section
variable (acts : List Act) (k : Nat) (i8 : Int) (u : List Bool) (a : Act) (x : MapH)

theorem plays_l17 (hu : u.length = k) (hk : k < 1000) (K0 : (List Act) → Int → Int → Int → Int → Bool → (List Bool) → Act → MapH → (List Bool) → Prop) (want : Int) (c : Nat) (N : Nat) (hN : a.2.2.1 = (N : Int)) (hc : c + N ≤ k)
    (h : K0 acts k i8 want c (decide (∀ j, j < N → u.getD (c + j) false = false)) u a x u) : ∀ (m j : Nat), j + m = N → (∀ i, i < j → u.getD (c + i) false = false) →
      law06.ExtentPlays.l17 K0 (m + 1) acts k i8 want c true j u a x u := by
  intro m
  induction m with
  | zero =>
    intro j hj hall
    unfold law06.ExtentPlays.l17 law06.ExtentPlays.j36
    rw [br_true, hN, lt_false (by omega), br_false]
    rw [decide_eq_true (fun i hi => hall i (by omega))] at h
    exact h
  | succ m ih =>
    intro j hj hall
    unfold law06.ExtentPlays.l17 law06.ExtentPlays.j36
    rw [br_true, hN, lt_true (by omega), br_true, wrap_small (n := (c : Int) + (j : Int)) (by omega) (by omega), show (c : Int) + (j : Int) = ((c + j : Nat) : Int) from by omega, Int.toNat_natCast, wrap_succ j (by omega), ixN_getD]
    refine ⟨⟨by omega, by omega⟩, by omega, ?_⟩
    cases hb : u.getD (c + j) false with
    | false =>
      refine ih (j + 1) (by omega) fun i hi => ?_
      by_cases he : i = j
      · rw [he]; exact hb
      · exact hall i (by omega)
    | true =>
      rw [Bool.not_true]
      unfold law06.ExtentPlays.l17 law06.ExtentPlays.j36
      rw [br_false, br_false]
      rw [decide_eq_false (fun e => by rw [e j (by omega)] at hb; cases hb)] at h
      exact h
theorem plays_l17_false (K0 : (List Act) → Int → Int → Int → Int → Bool → (List Bool) → Act → MapH → (List Bool) → Prop) (want c j : Int) (h : K0 acts k i8 want c false u a x u) : law06.ExtentPlays.l17 K0 1 acts k i8 want c false j u a x u := by
  unfold law06.ExtentPlays.l17 law06.ExtentPlays.j36
  exact h
/-- The first place, sought from behind. -/
theorem plays_l13 (hu : u.length = k) (hk : k < 1000) (K0 : (List Act) → Int → Int → Int → (List Bool) → Act → MapH → (List Bool) → Prop) (h : ∀ want, IsFind u a.2.2.1 want → K0 acts k i8 want u a x u) : ∀ (c : Nat) (want : Int), c ≤ k → IsW u a.2.2.1 c want →
    law06.ExtentPlays.l13 K0 (c + 1) acts k i8 want ((c : Int) - 1) u a x u := by
  intro c
  induction c with
  | zero =>
    intro want _ hw
    unfold law06.ExtentPlays.l13
    rw [decide_eq_false (by omega), br_false]
    exact h want (isW_find hw)
  | succ c ih =>
    intro want hck hw
    have next := ih _ (by omega) (isW_step hw)
    rw [show ((c + 1 : Nat) : Int) - 1 = (c : Int) from by omega]
    unfold law06.ExtentPlays.l13
    rw [decide_eq_true (by omega), br_true]
    have fin : ∀ (free : Bool) (m : Nat), free = decide (okI u c a.2.2.1) → (∀ K0, K0 acts (k : Int) i8 want (c : Int) free u a x u → law06.ExtentPlays.l17 K0 m acts k i8 want c (decide (1 ≤ a.2.2.1 ∧ a.2.2.1 ≤ (k : Int) - c)) 0 u a x u) →
        law06.ExtentPlays.j32 (fun acts1_79 k5_80 i8_81 want10_82 at11_83 oused7_84 oa9_85 ot34_86 ot23_87 => law06.ExtentPlays.l13 K0 (c + 1) acts1_79 k5_80 i8_81 want10_82 at11_83 oused7_84 oa9_85 ot34_86 ot23_87) acts k i8 want c (decide (1 ≤ a.2.2.1 ∧ a.2.2.1 ≤ (k : Int) - c)) u a x u := by
      intro free m hf hl
      unfold law06.ExtentPlays.j32
      refine ⟨m, hl _ ?_⟩
      unfold law06.ExtentPlays.j179
      rw [hf, wrap_small (n := (c : Int) - 1) (by omega) (by omega)]
      by_cases ho : okI u c a.2.2.1
      · rw [decide_eq_true ho, br_true]
        rw [if_pos ho] at next
        exact next
      · rw [decide_eq_false ho, br_false]
        rw [if_neg ho] at next
        exact next
    by_cases h1 : 1 ≤ a.2.2.1
    · rw [decide_eq_true h1, br_true, wrap_small (n := (k : Int) - (c : Int)) (by omega) (by omega)]
      obtain ⟨N, hN⟩ := Int.eq_ofNat_of_zero_le (show 0 ≤ a.2.2.1 by omega)
      by_cases h2 : a.2.2.1 ≤ (k : Int) - c
      · have e : decide (a.2.2.1 ≤ (k : Int) - c) = decide (1 ≤ a.2.2.1 ∧ a.2.2.1 ≤ (k : Int) - c) := by rw [decide_eq_true h2, decide_eq_true ⟨h1, h2⟩]
        rw [e]
        refine fin _ (N + 1) rfl fun K1 hK1 => ?_
        rw [decide_eq_true ⟨h1, h2⟩]
        refine plays_l17 acts k i8 u a x hu hk K1 want c N hN (by omega) ?_ N 0 (by omega) (fun i hi => by omega)
        have : decide (∀ j, j < N → u.getD (c + j) false = false) = decide (okI u c a.2.2.1) := by
          rw [decide_eq_decide]
          unfold okI okAt
          rw [hN, Int.toNat_natCast]
          exact ⟨fun e => ⟨by omega, by omega, e⟩, fun e => e.2.2⟩
        rw [this]
        exact hK1
      · have e : decide (a.2.2.1 ≤ (k : Int) - c) = decide (1 ≤ a.2.2.1 ∧ a.2.2.1 ≤ (k : Int) - c) := by rw [decide_eq_false h2, decide_eq_false (fun e => h2 e.2)]
        rw [e]
        have ho : ¬ okI u c a.2.2.1 := fun e => by have := e.2.1; omega
        refine fin _ 1 rfl fun K1 hK1 => ?_
        rw [decide_eq_false (fun e => h2 e.2)]
        rw [decide_eq_false ho] at hK1
        exact plays_l17_false acts k i8 u a x K1 want c 0 hK1
    · rw [decide_eq_false h1, br_false]
      have e : false = decide (1 ≤ a.2.2.1 ∧ a.2.2.1 ≤ (k : Int) - c) := by rw [decide_eq_false (fun e => h1 e.1)]
      have ho : ¬ okI u c a.2.2.1 := fun e => h1 e.1
      have := fin _ 1 rfl fun K1 hK1 => by
        rw [decide_eq_false (fun e => h1 e.1)]
        rw [decide_eq_false ho] at hK1
        exact plays_l17_false acts k i8 u a x K1 want c 0 hK1
      rw [← e] at this
      exact this
/-- What is taken is told. -/
theorem plays_l25 (hu : u.length = k) (hk : k < 1000) (K0 : (List Act) → Int → Int → (List Bool) → MapH → (List Bool) → Prop) (c N : Nat) (hN : a.2.2.1 = (N : Int)) (hc : c + N ≤ k) (v : List Bool) (h : K0 acts k i8 (fillS u c true N) x v) : ∀ (m j : Nat), j + m = N →
    law06.ExtentPlays.l25 K0 (m + 1) acts k i8 c j (fillS u c true j) a x v := by
  intro m
  induction m with
  | zero =>
    intro j hj
    unfold law06.ExtentPlays.l25 law06.ExtentPlays.j52
    rw [decide_eq_true (by omega), br_true, hN, lt_false (by omega), br_false, show j = N by omega]
    exact h
  | succ m ih =>
    intro j hj
    unfold law06.ExtentPlays.l25 law06.ExtentPlays.j52
    rw [decide_eq_true (by omega), br_true, hN, lt_true (by omega), br_true, wrap_small (n := (c : Int) + (j : Int)) (by omega) (by omega), show (c : Int) + (j : Int) = ((c + j : Nat) : Int) from by omega, Int.toNat_natCast, wrap_succ j (by omega), fillS_len]
    exact ⟨⟨by omega, by omega⟩, by omega, ih (j + 1) (by omega)⟩
theorem plays_l25_none (K0 : (List Act) → Int → Int → (List Bool) → MapH → (List Bool) → Prop) (j : Int) (v : List Bool) (h : K0 acts k i8 u x v) : law06.ExtentPlays.l25 K0 1 acts k i8 (-1) j u a x v := by
  unfold law06.ExtentPlays.l25 law06.ExtentPlays.j52
  exact h
/-- All is as it is told. -/
theorem plays_j439 (hu : u.length = k) (hk : k < 1000) (hi : -1000 ≤ i8 ∧ i8 < 1000) (K0 : Bool → Prop) (K1 : (List Act) → Int → Int → (List Bool) → MapH → (List Bool) → Prop) (h : K1 acts k (i8 + 1) u x u) : law06.ExtentPlays.j439 K0 K1 acts k i8 u x u := by
  unfold law06.ExtentPlays.j439
  have key : ∀ (K0 : Bool → Prop) (K1 : (List Act) → Int → Int → Int → (List Bool) → MapH → (List Bool) → Prop), K1 acts k i8 ((u.count false : Nat) : Int) u x u → ∀ (m j : Nat), j + m = k →
      law06.ExtentPlays.l46 K0 K1 (m + 1) acts k i8 (((u.take j).count false : Nat) : Int) j u x u := by
    intro K0 K1 hK m
    induction m with
    | zero =>
      intro j hj
      unfold law06.ExtentPlays.l46
      rw [lt_false (by omega), br_false, List.take_of_length_le (by omega)]
      exact hK
    | succ m ih =>
      intro j hj
      have hlt : j < u.length := by omega
      unfold law06.ExtentPlays.l46
      rw [lt_true (by omega), br_true]
      refine used_law _ _ _ _ (by omega) ?_
      have e : usedS u (j : Int) = u[j] := by
        unfold usedS
        rw [if_pos (by omega), Int.toNat_natCast, List.getD_eq_getElem?_getD, List.getElem?_eq_getElem hlt]; rfl
      have e2 : u.getD j false = u[j] := by rw [List.getD_eq_getElem?_getD, List.getElem?_eq_getElem hlt]; rfl
      have ht : u.take (j + 1) = u.take j ++ [u[j]] := by rw [List.take_add_one, List.getElem?_eq_getElem hlt]; rfl
      have hcl := List.count_le_length (a := false) (l := u.take j)
      rw [List.length_take] at hcl
      rw [Int.toNat_natCast, ixN_getD, e, e2, eqT_bool, show (u[j] == u[j]) = true from by simp, Bool.not_true, br_false]
      refine ⟨⟨by omega, by omega⟩, by omega, ⟨by omega, by omega⟩, by omega, ?_⟩
      have := ih (j + 1) (by omega)
      rw [ht, List.count_append] at this
      unfold law06.ExtentPlays.j419
      rw [wrap_succ j (by omega)]
      cases hb : u[j] with
      | true =>
        rw [hb] at this
        exact this
      | false =>
        rw [hb] at this
        rw [Bool.not_false, br_true, wrap_succ _ (by omega)]
        exact this
  refine ⟨k + 1, key _ _ ?_ k 0 (by omega)⟩
  refine left_law _ _ _ (by omega) ?_
  rw [show (((u.count false : Nat) : Int) != ((u.count false : Nat) : Int)) = false from by simp, br_false]
  refine len_law _ _ _ ?_
  rw [hu, show (((k : Nat) : Int) != (k : Int)) = false from by simp, br_false]
  refine used_law _ _ _ _ (by omega) ?_
  have e1 : usedS u (k : Int) = false := by
    unfold usedS
    rw [if_pos (by omega), Int.toNat_natCast, List.getD_eq_getElem?_getD, List.getElem?_eq_none (by omega)]; rfl
  rw [e1, br_false]
  refine used_law _ _ _ _ (by omega) ?_
  have e2 : usedS u (-1) = false := by unfold usedS; rw [if_neg (by omega)]
  rw [e2]
  unfold law06.ExtentPlays.j106 law06.ExtentPlays.j871
  rw [br_false, wrap_small (n := i8 + 1) (by omega) (by omega)]
  exact h
theorem plays_l31 (hu : u.length = k) (hk : k < 1000) (K0 : (List Act) → Int → Int → Bool → Bool → (List Bool) → Act → MapH → (List Bool) → Prop) (take : Bool) (c N : Nat) (hA : a.2.1 = (c : Int)) (hN : a.2.2.1 = (N : Int)) (hc : c + N ≤ k)
    (h : K0 acts k i8 take ((List.range N).all fun j => u.getD (c + j) false != take) u a x u) : ∀ (m j : Nat), j + m = N → (∀ i, i < j → u.getD (c + i) false ≠ take) →
      law06.ExtentPlays.l31 K0 (m + 1) acts k i8 take true j u a x u := by
  intro m
  induction m with
  | zero =>
    intro j hj hall
    unfold law06.ExtentPlays.l31 law06.ExtentPlays.j64
    rw [br_true, hN, lt_false (by omega), br_false]
    rw [show ((List.range N).all fun j => u.getD (c + j) false != take) = true from by rw [List.all_eq_true]; intro i hi; rw [List.mem_range] at hi; simpa using hall i (by omega)] at h
    exact h
  | succ m ih =>
    intro j hj hall
    unfold law06.ExtentPlays.l31 law06.ExtentPlays.j64
    rw [br_true, hN, hA, lt_true (by omega), br_true, wrap_small (n := (c : Int) + (j : Int)) (by omega) (by omega), show (c : Int) + (j : Int) = ((c + j : Nat) : Int) from by omega, Int.toNat_natCast, wrap_succ j (by omega), ixN_getD, eqT_bool]
    refine ⟨⟨by omega, by omega⟩, by omega, ?_⟩
    by_cases hb : u.getD (c + j) false = take
    · rw [show (u.getD (c + j) false == take) = true from by simpa using hb, Bool.not_true]
      unfold law06.ExtentPlays.l31 law06.ExtentPlays.j64
      rw [show ((List.range N).all fun j => u.getD (c + j) false != take) = false from by
        rw [Bool.eq_false_iff]; intro e; rw [List.all_eq_true] at e
        have := e j (List.mem_range.2 (by omega))
        rw [hb] at this
        simp at this] at h
      exact h
    · rw [show (u.getD (c + j) false == take) = false from by simpa using hb, Bool.not_false]
      refine ih (j + 1) (by omega) fun i hi => ?_
      by_cases he : i = j
      · rw [he]; exact hb
      · exact hall i (by omega)
theorem plays_l31_false (K0 : (List Act) → Int → Int → Bool → Bool → (List Bool) → Act → MapH → (List Bool) → Prop) (take : Bool) (j : Int) (h : K0 acts k i8 take false u a x u) : law06.ExtentPlays.l31 K0 1 acts k i8 take false j u a x u := by
  unfold law06.ExtentPlays.l31 law06.ExtentPlays.j64
  exact h
theorem plays_l41 (hu : u.length = k) (hk : k < 1000) (K0 : (List Act) → Int → Int → MapH → (List Bool) → (List Bool) → Prop) (take : Bool) (c N : Nat) (hA : a.2.1 = (c : Int)) (hN : a.2.2.1 = (N : Int)) (hc : c + N ≤ k) (v : List Bool)
    (h : K0 acts k i8 x v (fillS u c take N)) : ∀ (m j : Nat), j + m = N →
      law06.ExtentPlays.l41 K0 (m + 1) acts k i8 take true j x v (fillS u c take j) a := by
  intro m
  induction m with
  | zero =>
    intro j hj
    unfold law06.ExtentPlays.l41 law06.ExtentPlays.j84
    rw [br_true, hN, lt_false (by omega), br_false, show j = N by omega]
    exact h
  | succ m ih =>
    intro j hj
    unfold law06.ExtentPlays.l41 law06.ExtentPlays.j84
    rw [br_true, hN, hA, lt_true (by omega), br_true, wrap_small (n := (c : Int) + (j : Int)) (by omega) (by omega), show (c : Int) + (j : Int) = ((c + j : Nat) : Int) from by omega, Int.toNat_natCast, wrap_succ j (by omega), fillS_len]
    exact ⟨⟨by omega, by omega⟩, by omega, ih (j + 1) (by omega)⟩
theorem plays_l41_false (K0 : (List Act) → Int → Int → MapH → (List Bool) → (List Bool) → Prop) (take : Bool) (j : Int) (v : List Bool) (h : K0 acts k i8 x v u) : law06.ExtentPlays.l41 K0 1 acts k i8 take false j x v u a := by
  unfold law06.ExtentPlays.l41 law06.ExtentPlays.j84
  exact h
/-- Some are taken, or freed. -/
theorem plays_j60 (hu : u.length = k) (hk : k < 1000) (hi : -1000 ≤ i8 ∧ i8 < 1000) (K0 : Bool → Prop) (K1 : (List Act) → Int → Int → (List Bool) → MapH → (List Bool) → Prop) (take : Bool) (can : Bool) (hcan : can = spanS k a.2.1 a.2.2.1)
    (h : K1 acts k (i8 + 1) (turnS u a.2.1 a.2.2.1 take) x (turnS u a.2.1 a.2.2.1 take)) : law06.ExtentPlays.j60 K0 K1 acts k i8 take can u a x u := by
  unfold law06.ExtentPlays.j60
  -- behind the first loop
  have rest : law06.ExtentPlays.j149 K0 K1 acts k i8 take (canS u a.2.1 a.2.2.1 take) (canS u a.2.1 a.2.2.1 take) x (turnS u a.2.1 a.2.2.1 take) u a := by
    unfold law06.ExtentPlays.j149
    rw [eqT_bool, show (canS u a.2.1 a.2.2.1 take == canS u a.2.1 a.2.2.1 take) = true from by simp, Bool.not_true, br_false]
    have fin : ∀ v, v = turnS u a.2.1 a.2.2.1 take → law06.ExtentPlays.j439 K0 K1 acts k i8 v x (turnS u a.2.1 a.2.2.1 take) := fun v hv => by
      rw [hv]
      exact plays_j439 acts k i8 _ x (by rw [turnS_len, hu]) hk hi K0 K1 h
    cases hc : canS u a.2.1 a.2.2.1 take with
    | false =>
      refine ⟨1, plays_l41_false acts k i8 u a x _ take 0 _ (fin u ?_)⟩
      unfold turnS
      rw [if_neg (by rw [hc]; simp)]
    | true =>
      have hs : spanS u.length a.2.1 a.2.2.1 = true := by unfold canS at hc; exact (Bool.and_eq_true _ _ ▸ hc).1
      unfold spanS at hs
      have hs := of_decide_eq_true hs
      obtain ⟨c, hA⟩ := Int.eq_ofNat_of_zero_le hs.1
      obtain ⟨N, hN⟩ := Int.eq_ofNat_of_zero_le hs.2.1
      refine ⟨N + 1, plays_l41 acts k i8 u a x hu hk _ take c N hA hN (by omega) _ (fin _ ?_) N 0 (by omega)⟩
      unfold turnS
      rw [if_pos hc, hA, hN]
      simp only [Int.toNat_natCast]
  have go : ∀ b, b = canS u a.2.1 a.2.2.1 take → br take (extent.Map_Take a.2.1 a.2.2.1 x u (fun r o p => law06.ExtentPlays.j149 K0 K1 acts k i8 take b r o p u a)) (extent.Map_Free a.2.1 a.2.2.1 x u (fun r o p => law06.ExtentPlays.j149 K0 K1 acts k i8 take b r o p u a)) := by
    intro b hb
    subst hb
    cases take with
    | true => rw [br_true]; exact take_law _ _ _ _ _ (by omega) rest
    | false => rw [br_false]; exact free_law _ _ _ _ _ (by omega) rest
  cases hc : spanS k a.2.1 a.2.2.1 with
  | false =>
    rw [hc] at hcan
    subst hcan
    refine ⟨1, plays_l31_false acts k i8 u a x _ take 0 (go false ?_)⟩
    unfold canS
    rw [hu, hc]; rfl
  | true =>
    rw [hc] at hcan
    subst hcan
    have hs := hc
    unfold spanS at hs
    have hs := of_decide_eq_true hs
    obtain ⟨c, hA⟩ := Int.eq_ofNat_of_zero_le hs.1
    obtain ⟨N, hN⟩ := Int.eq_ofNat_of_zero_le hs.2.1
    refine ⟨N + 1, plays_l31 acts k i8 u a x hu hk _ take c N hA hN (by omega) (go _ ?_) N 0 (by omega) (fun i hi => by omega)⟩
    unfold canS
    rw [hu, hc, hA, hN]
    simp only [Int.toNat_natCast, Bool.true_and]
end

theorem find_can {u : List Bool} {N : Int} {c : Nat} (h : 1 ≤ N) (ho : okAt u c N.toNat) : canS u (c : Int) N true = true := by
  unfold canS spanS
  have h1 := ho.1
  rw [Bool.and_eq_true, decide_eq_true_eq, List.all_eq_true]
  refine ⟨⟨by omega, by omega, by omega, by omega⟩, fun j hj => ?_⟩
  rw [Int.toNat_natCast, ho.2 j (by simpa using hj)]
  rfl
theorem plays_l7 (K0 : Bool → Prop) (K1 : Prop) (h : K1) (acts : List Act) (hlen : acts.length ≤ 50) (k : Nat) (hk : k < 1000) : ∀ (m i : Nat) (u : List Bool), i + m = acts.length → u.length = k → law06.ExtentPlays.l7 K0 K1 (m + 1) acts k (i : Int) u ((), ()) u := by
  intro m
  induction m with
  | zero =>
    intro i u hi hu
    unfold law06.ExtentPlays.l7
    rw [lt_false (by omega), br_false]
    exact h
  | succ m ih =>
    intro i u hi hu
    have hlt : i < acts.length := by omega
    unfold law06.ExtentPlays.l7
    rw [lt_true hlt, br_true]
    refine ⟨⟨by omega, by omega⟩, by omega, ?_⟩
    rw [ix_nat _ _ _ hlt]
    generalize acts[i] = a
    cases (Int.tmod a.1 4 == 3) with
    | true =>
      rw [br_true, wrap_small (n := (k : Int) - 1) (by omega) (by omega)]
      refine ⟨k + 1, plays_l13 acts k i u a ((), ()) hu hk _ (fun want hw => ?_) k (-1) (Nat.le_refl k) (.inl ⟨rfl, fun c hc ho => by have h1 := ho.2.1; have := ho.1; omega⟩)⟩
      refine find_law _ _ _ _ (by omega) fun r hr => ?_
      obtain rfl := isFind_one hw hr
      rw [show (want != want) = false from by simp, br_false]
      rcases hw with ⟨h1, h2⟩ | ⟨h1, ⟨h2, h3⟩ | ⟨c, h2, h3, h4⟩⟩
      · subst h2
        rw [decide_eq_false (by omega), br_false]
        unfold law06.ExtentPlays.j46
        rw [br_false]
        refine ⟨1, plays_l25_none acts k i u a ((), ()) _ 0 _ ?_⟩
        exact plays_j439 acts k i u ((), ()) hu hk ⟨by omega, by omega⟩ K0 _ (ih (i + 1) u (by omega) hu)
      · subst h2
        rw [decide_eq_false (by omega), br_false]
        unfold law06.ExtentPlays.j46
        rw [br_false]
        refine ⟨1, plays_l25_none acts k i u a ((), ()) _ 0 _ ?_⟩
        exact plays_j439 acts k i u ((), ()) hu hk ⟨by omega, by omega⟩ K0 _ (ih (i + 1) u (by omega) hu)
      · subst h2
        rw [decide_eq_true (by omega), br_true]
        have hcan := find_can h1 h3
        refine take_law _ _ _ _ _ (by omega) ?_
        rw [hcan, Bool.not_true]
        unfold law06.ExtentPlays.j46
        rw [br_false]
        obtain ⟨N, hN⟩ := Int.eq_ofNat_of_zero_le (show 0 ≤ a.2.2.1 by omega)
        have ht : turnS u (c : Int) a.2.2.1 true = fillS u c true N := by
          unfold turnS
          rw [if_pos hcan, hN]
          simp only [Int.toNat_natCast]
        rw [ht]
        have hc : c + N ≤ k := by have := h3.1; rw [hN, Int.toNat_natCast] at this; omega
        refine ⟨N + 1, plays_l25 acts k i u a ((), ()) hu hk _ c N hN hc _ ?_ N 0 (by omega)⟩
        exact plays_j439 acts k i _ ((), ()) (by rw [fillS_len, hu]) hk ⟨by omega, by omega⟩ K0 _ (ih (i + 1) _ (by omega) (by rw [fillS_len, hu]))
    | false =>
      rw [br_false]
      refine ⟨by omega, ?_⟩
      have nx : ∀ can, can = spanS k a.2.1 a.2.2.1 → law06.ExtentPlays.j60 K0 (fun acts1_369 k5_370 i8_371 oused7_372 ot34_373 ot23_374 => law06.ExtentPlays.l7 K0 K1 (m + 1) acts1_369 k5_370 i8_371 oused7_372 ot34_373 ot23_374) acts k i (decide (Int.tmod a.1 4 < 2)) can u a ((), ()) u := fun can hcan =>
        plays_j60 acts k i u a ((), ()) hu hk ⟨by omega, by omega⟩ K0 _ _ can hcan (ih (i + 1) _ (by omega) (by rw [turnS_len, hu]))
      unfold spanS at nx
      by_cases h1 : a.2.1 ≥ 0
      · rw [decide_eq_true h1, br_true]
        by_cases h2 : a.2.2.1 ≥ 0
        · rw [decide_eq_true h2, br_true]
          by_cases h3 : a.2.1 ≤ (k : Int)
          · rw [decide_eq_true h3, br_true, wrap_small (n := (k : Int) - a.2.1) (by omega) (by omega)]
            refine nx _ ?_
            rw [decide_eq_decide]
            exact ⟨fun e => ⟨h1, h2, h3, e⟩, fun e => e.2.2.2⟩
          · rw [decide_eq_false h3, br_false]
            exact nx _ (decide_eq_false (fun e => h3 e.2.2.1)).symm
        · rw [decide_eq_false h2, br_false]
          exact nx _ (decide_eq_false (fun e => h2 e.2.1)).symm
      · rw [decide_eq_false h1, br_false]
        exact nx _ (decide_eq_false (fun e => h1 e.1)).symm

theorem extentPlays (by_ : Nat → Nat) (n : Int) (acts : List Act) (w0 : Wf by_ (.int .u8) n) (w1 : Wf by_ (.sl 36 tAct) acts) (K : Bool → Prop) (h : K true) : law06.ExtentPlays n acts K := by
  unfold law06.ExtentPlays law06.ExtentPlays.j4
  refine awake_law _ ?_
  rw [Bool.not_true, br_false]
  by_cases hlen : acts.length > 50
  · rw [decide_eq_true (by omega), br_true]
    exact awake_law _ h
  rw [decide_eq_false (by omega), br_false]
  refine ⟨by omega, ?_⟩
  have hn : 0 ≤ n ∧ n ≤ 255 := w0
  obtain ⟨c, rfl⟩ := Int.eq_ofNat_of_zero_le hn.1
  have hm : Int.tmod (c : Int) 30 = ((c % 30 : Nat) : Int) := by rw [Int.tmod_eq_emod_of_nonneg (by omega)]; omega
  have hm' : c % 30 < 30 := Nat.mod_lt _ (by omega)
  rw [hm, wrap_small (n := ((c % 30 : Nat) : Int)) (by omega) (by omega)]
  refine new_law _ _ (by omega) ?_
  rw [Int.toNat_natCast]
  refine ⟨⟨rfl, by omega, by omega, by omega⟩, acts.length + 1, ?_⟩
  exact plays_l7 K (K true) h acts (by omega) (c % 30) (by omega) acts.length 0 _ (by omega) (by simp)
end Go.Iw
