/- Plain laws, one behind the other. -/
import Derived.Test.YtijalebbhnfofaaXPl
import Derived.Test.YtijalebbhnfofaaJvK
/- Plain laws: places that are taken, and freed. -/
namespace Go.Iw
open Go.Iv
set_option linter.unusedVariables false
set_option linter.unusedSimpArgs false

@[simp] theorem br_true (X Y : Prop) : br true X Y = X := rfl
@[simp] theorem br_false (X Y : Prop) : br false X Y = Y := rfl
theorem wrap_small {n : Int} (h1 : -9223372036854775808 ≤ n) (h2 : n ≤ 9223372036854775807) : IntKind.wrap .i64 n = n := by
  rw [IntKind.wrap_i64]; omega
theorem wrap_small_u8 {n : Int} (h1 : 0 ≤ n) (h2 : n ≤ 255) : IntKind.wrap .u8 n = n := by
  rw [IntKind.wrap_u8]; omega
theorem ix_nat {α : Type} (z : α) (c : List α) (i : Nat) (h : i < c.length) : ix z c (i : Int) = c[i] := by
  simp [ix, List.getD_eq_getElem?_getD, List.getElem?_eq_getElem h]
theorem ix_getD {α : Type} (z : α) (c : List α) (i : Nat) : ix z c (i : Int) = c.getD i z := by
  simp [ix]
theorem wrap_succ (i : Nat) (h : i < 9223372036854775807) : IntKind.wrap .i64 ((i : Int) + 1) = ((i + 1 : Nat) : Int) := by
  rw [wrap_small (by omega) (by omega)]; omega
theorem lt_true {i n : Nat} (h : i < n) : decide ((i : Int) < (n : Int)) = true := by simp; omega
theorem lt_false {i n : Nat} (h : n ≤ i) : decide ((i : Int) < (n : Int)) = false := by simp; omega
theorem eqT_bool (x y : Bool) : eqT .bool x y = (x == y) := by cases x <;> cases y <;> rfl

/-- So many places are free from one on. -/
def okAt (u : List Bool) (a n : Nat) : Prop := a + n ≤ u.length ∧ ∀ j, j < n → u.getD (a + j) false = false
instance (u : List Bool) (a n : Nat) : Decidable (okAt u a n) := by unfold okAt; infer_instance
/-- The first place from which so many are free. -/
def IsFind (u : List Bool) (n : Int) (r : Int) : Prop :=
  (n < 1 ∧ r = -1) ∨ (1 ≤ n ∧ ((r = -1 ∧ ∀ a, ¬ okAt u a n.toNat) ∨ ∃ a : Nat, r = (a : Int) ∧ okAt u a n.toNat ∧ ∀ b, b < a → ¬ okAt u b n.toNat))
theorem isFind_one {u : List Bool} {n r s : Int} (h : IsFind u n r) (k : IsFind u n s) : r = s := by
  rcases h with ⟨h1, h2⟩ | ⟨h1, ⟨h2, h3⟩ | ⟨a, h2, h3, h4⟩⟩ <;> rcases k with ⟨k1, k2⟩ | ⟨k1, ⟨k2, k3⟩ | ⟨b, k2, k3, k4⟩⟩ <;> try omega
  · exact absurd k3 (h3 b)
  · exact absurd h3 (k3 a)
  · have : a = b := by
      rcases Nat.lt_trichotomy a b with h | h | h
      · exact absurd h3 (k4 a h)
      · exact h
      · exact absurd k3 (h4 b h)
    omega

theorem find_law (u : List Bool) (x : Unit) (n : Int) (K : Int → Prop) (hu : u.length ≤ 1000000000000) (h : ∀ r, IsFind u n r → K r) : extent.Map_Find (u, x) n K := by
  unfold extent.Map_Find extent.Map_Find.j6
  by_cases hn : n < 1
  · rw [decide_eq_true hn, br_true]
    exact h _ (.inl ⟨hn, rfl⟩)
  rw [decide_eq_false hn, br_false]
  obtain ⟨k, rfl⟩ := Int.eq_ofNat_of_zero_le (show 0 ≤ n by omega)
  have hk : 1 ≤ k := by omega
  have key : ∀ (m i run : Nat), i + m = u.length → run ≤ i → run < k → (∀ j, i - run ≤ j → j < i → u.getD j false = false) → (run = i ∨ u.getD (i - run - 1) false = true) → (∀ a, okAt u a k → i < a + k) →
      extent.Map_Find.l5 K (K (-1)) (m + 1) (k : Int) (run : Int) u ((u.length : Nat) : Int) (i : Int) := by
    intro m
    induction m with
    | zero =>
      intro i run hi hr hrk hf hb hno
      unfold extent.Map_Find.l5
      rw [lt_false (by omega), br_false]
      refine h _ (.inr ⟨by omega, .inl ⟨rfl, fun a ha => ?_⟩⟩)
      rw [Int.toNat_natCast] at ha
      have := hno a ha
      have := ha.1
      omega
    | succ m ih =>
      intro i run hi hr hrk hf hb hno
      unfold extent.Map_Find.l5
      rw [lt_true (by omega), br_true]
      refine ⟨⟨by omega, by omega⟩, ?_⟩
      rw [ix_getD]
      cases hc : u.getD i false with
      | true =>
        rw [br_true]
        unfold extent.Map_Find.j41 extent.Map_Find.j199
        rw [show ((0 : Int) == (k : Int)) = false from by simp; omega, br_false, wrap_succ _ (by omega)]
        refine ih (i + 1) 0 (by omega) (by omega) (by omega) (fun j h1 h2 => by omega) (.inr (by simpa using hc)) (fun a ha => ?_)
        have h1 := hno a ha
        rcases Nat.lt_or_ge (i + 1) (a + k) with h2 | h2
        · exact h2
        · exfalso
          have := ha.2 (i - a) (by omega)
          rw [show a + (i - a) = i by omega, hc] at this
          cases this
      | false =>
        rw [br_false]
        unfold extent.Map_Find.j41 extent.Map_Find.j199
        rw [wrap_succ _ (by omega), wrap_succ _ (by omega)]
        by_cases he : run + 1 = k
        · rw [show (((run + 1 : Nat) : Int) == (k : Int)) = true from by simp; omega, br_true]
          rw [wrap_small (n := (i : Int) - (k : Int)) (by omega) (by omega), wrap_small (n := (i : Int) - (k : Int) + 1) (by omega) (by omega)]
          refine h _ (.inr ⟨by omega, .inr ⟨i + 1 - k, by omega, ?_, fun b hb2 hok => ?_⟩⟩)
          · rw [Int.toNat_natCast]
            refine ⟨by omega, fun j hj => ?_⟩
            by_cases hji : i + 1 - k + j = i
            · rw [hji]; exact hc
            · exact hf _ (by omega) (by omega)
          · rw [Int.toNat_natCast] at hok
            have := hno b hok
            omega
        · rw [show (((run + 1 : Nat) : Int) == (k : Int)) = false from by simp; omega, br_false]
          refine ih (i + 1) (run + 1) (by omega) (by omega) (by omega) (fun j h1 h2 => ?_) ?_ (fun a ha => ?_)
          · by_cases hji : j = i
            · rw [hji]; exact hc
            · exact hf j (by omega) (by omega)
          · rcases hb with hb | hb
            · exact .inl (by omega)
            · exact .inr (by rw [show i + 1 - (run + 1) - 1 = i - run - 1 by omega]; exact hb)
          · have h1 := hno a ha
            rcases Nat.lt_or_ge (i + 1) (a + k) with h2 | h2
            · exact h2
            · exfalso
              rcases hb with hb | hb
              · omega
              · have := ha.2 (i - run - 1 - a) (by omega)
                rw [show a + (i - run - 1 - a) = i - run - 1 by omega, hb] at this
                cases this
  exact ⟨u.length + 1, key u.length 0 0 (by omega) (by omega) (by omega) (fun j h1 h2 => by omega) (.inl rfl) (fun a ha => by omega)⟩

theorem left_law (u : List Bool) (x : Unit) (K : Int → Prop) (hu : u.length ≤ 1000000000000) (h : K ((u.count false : Nat) : Int)) : extent.Map_Left (u, x) K := by
  unfold extent.Map_Left
  have key : ∀ (m i : Nat), i + m = u.length → extent.Map_Left.l5 K (m + 1) (((u.take i).count false : Nat) : Int) u ((u.length : Nat) : Int) (i : Int) := by
    intro m
    induction m with
    | zero =>
      intro i hi
      unfold extent.Map_Left.l5
      rw [lt_false (by omega), br_false, List.take_of_length_le (by omega)]
      exact h
    | succ m ih =>
      intro i hi
      have hlt : i < u.length := by omega
      unfold extent.Map_Left.l5
      rw [lt_true (by omega), br_true]
      refine ⟨⟨by omega, by omega⟩, ?_⟩
      have ht : u.take (i + 1) = u.take i ++ [u[i]] := by rw [List.take_add_one, List.getElem?_eq_getElem hlt]; rfl
      have hc := List.count_le_length (a := false) (l := u.take i)
      rw [List.length_take] at hc
      have := ih (i + 1) (by omega)
      rw [ht, List.count_append] at this
      rw [ix_nat _ _ _ hlt]
      unfold extent.Map_Left.j75
      rw [wrap_succ i (by omega)]
      cases hb : u[i] with
      | true =>
        rw [hb] at this
        exact this
      | false =>
        rw [hb] at this
        rw [Bool.not_false, br_true, wrap_succ _ (by omega)]
        exact this
  exact ⟨u.length + 1, key u.length 0 (by omega)⟩

def spanS (len : Nat) (at_ n : Int) : Bool := decide (0 ≤ at_ ∧ 0 ≤ n ∧ at_ ≤ (len : Int) ∧ n ≤ (len : Int) - at_)
theorem span_law (u : List Bool) (x : Unit) (at_ n : Int) (K : Bool → Prop) (hu : u.length ≤ 1000000000000) (h : K (spanS u.length at_ n)) : extent.Map_span (u, x) at_ n K := by
  unfold extent.Map_span
  unfold spanS at h
  show br (decide (at_ ≥ 0)) (br (decide (n ≥ 0)) (br (decide (at_ ≤ (u.length : Int))) (K (decide (n ≤ IntKind.wrap .i64 ((u.length : Int) - at_)))) (K false)) (K false)) (K false)
  by_cases h1 : 0 ≤ at_
  · rw [decide_eq_true (by omega), br_true]
    by_cases h2 : 0 ≤ n
    · rw [decide_eq_true (by omega), br_true]
      by_cases h3 : at_ ≤ (u.length : Int)
      · rw [decide_eq_true h3, br_true, wrap_small (by omega) (by omega)]
        by_cases h4 : n ≤ (u.length : Int) - at_
        · rw [decide_eq_true h4]
          rw [decide_eq_true ⟨h1, h2, h3, h4⟩] at h
          exact h
        · rw [decide_eq_false h4]
          rw [decide_eq_false (fun h => h4 h.2.2.2)] at h
          exact h
      · rw [decide_eq_false h3, br_false]
        rw [decide_eq_false (fun h => h3 h.2.2.1)] at h
        exact h
    · rw [decide_eq_false (by omega), br_false]
      rw [decide_eq_false (fun h => h2 h.2.1)] at h
      exact h
  · rw [decide_eq_false (by omega), br_false]
    rw [decide_eq_false (fun h => h1 h.1)] at h
    exact h

def usedS (u : List Bool) (at_ : Int) : Bool := if 0 ≤ at_ then u.getD at_.toNat false else false
theorem used_law (u : List Bool) (x : Unit) (at_ : Int) (K : Bool → Prop) (hu : u.length ≤ 1000000000000) (h : K (usedS u at_)) : extent.Map_Used (u, x) at_ K := by
  unfold extent.Map_Used
  refine span_law u x at_ 1 _ hu ?_
  unfold spanS
  by_cases hs : 0 ≤ at_ ∧ at_ < (u.length : Int)
  · rw [decide_eq_true (by omega), br_true]
    refine ⟨hs, ?_⟩
    obtain ⟨a, rfl⟩ := Int.eq_ofNat_of_zero_le hs.1
    rw [ix_getD]
    unfold usedS at h
    rw [if_pos (by omega), Int.toNat_natCast] at h
    exact h
  · rw [decide_eq_false (by omega), br_false]
    unfold usedS at h
    split at h
    · rename_i h0
      have : u.length ≤ at_.toNat := by omega
      rw [List.getD_eq_getElem?_getD, List.getElem?_eq_none this] at h
      exact h
    · exact h
theorem len_law (u : List Bool) (x : Unit) (K : Int → Prop) (h : K ((u.length : Nat) : Int)) : extent.Map_Len (u, x) K := h

theorem new_law (n : Int) (K : MapH → List Bool → Prop) (hn : n ≤ 1000000000000) (h : K ((), ()) (List.replicate n.toNat false)) : extent.New n K := by
  unfold extent.New
  have e : (Go.Iv.maxInt n 0).toNat = n.toNat := by unfold Go.Iv.maxInt; split <;> omega
  have e1 : 0 ≤ Go.Iv.maxInt n 0 := by unfold Go.Iv.maxInt; split <;> omega
  have e2 : Go.Iv.maxInt n 0 ≤ 1000000000000 := by unfold Go.Iv.maxInt; split <;> omega
  rw [e]
  exact ⟨⟨rfl, e1, by omega, by omega⟩, h⟩

/-- So many places become b, from one on. -/
def fillS (u : List Bool) (a : Nat) (b : Bool) : Nat → List Bool
  | 0 => u
  | n + 1 => (fillS u a b n).set (a + n) b
theorem fillS_len {u : List Bool} {a : Nat} {b : Bool} : ∀ {n : Nat}, (fillS u a b n).length = u.length
  | 0 => rfl
  | n + 1 => by unfold fillS; rw [List.length_set, fillS_len]
theorem getD_set (u : List Bool) (i j : Nat) (b : Bool) : (u.set i b).getD j false = if i = j ∧ j < u.length then b else u.getD j false := by
  simp only [List.getD_eq_getElem?_getD, List.getElem?_set]
  by_cases h : i = j
  · subst h
    by_cases h2 : i < u.length
    · simp [h2]
    · simp [h2]
  · simp [h]
theorem fillS_get {u : List Bool} {a : Nat} {b : Bool} {j : Nat} : ∀ {n : Nat}, (fillS u a b n).getD j false = if a ≤ j ∧ j < a + n ∧ j < u.length then b else u.getD j false
  | 0 => by unfold fillS; rw [if_neg (by omega)]
  | n + 1 => by
    unfold fillS
    rw [getD_set, fillS_len, fillS_get]
    by_cases h1 : a + n = j ∧ j < u.length
    · rw [if_pos h1, if_pos (by omega)]
    · rw [if_neg h1]
      by_cases h2 : a ≤ j ∧ j < a + n ∧ j < u.length
      · rw [if_pos h2, if_pos (by omega)]
      · rw [if_neg h2, if_neg (by omega)]
/-- May it be done? -/
def canS (u : List Bool) (at_ n : Int) (b : Bool) : Bool := spanS u.length at_ n && (List.range n.toNat).all fun j => u.getD (at_.toNat + j) false != b
def turnS (u : List Bool) (at_ n : Int) (b : Bool) : List Bool := if canS u at_ n b = true then fillS u at_.toNat b n.toNat else u
theorem turnS_len {u : List Bool} {at_ n : Int} {b : Bool} : (turnS u at_ n b).length = u.length := by
  unfold turnS; split
  · exact fillS_len
  · rfl

theorem turn_law (u : List Bool) (x : MapH) (at_ n : Int) (b : Bool) (K : Bool → MapH → List Bool → Prop) (hu : u.length ≤ 1000000000000) (h : K (canS u at_ n b) x (turnS u at_ n b)) : extent.Map_turn at_ n b x u K := by
  unfold extent.Map_turn
  refine span_law u x.2 at_ n _ hu ?_
  unfold turnS canS at h
  cases hs : spanS u.length at_ n with
  | false =>
    rw [Bool.not_false, br_true]
    rw [hs, Bool.false_and] at h
    exact h
  | true =>
    rw [Bool.not_true, br_false]
    rw [hs, Bool.true_and] at h
    unfold spanS at hs
    have hs := of_decide_eq_true hs
    obtain ⟨a, rfl⟩ := Int.eq_ofNat_of_zero_le hs.1
    obtain ⟨k, rfl⟩ := Int.eq_ofNat_of_zero_le hs.2.1
    simp only [Int.toNat_natCast] at h
    rw [wrap_small (n := (a : Int) + (k : Int)) (by omega) (by omega)]
    rw [show ((a : Int) + (k : Int)) = ((a + k : Nat) : Int) from by omega]
    simp only [Int.toNat_natCast, Nat.add_sub_cancel_left]
    refine ⟨⟨by omega, by omega⟩, ⟨by omega, by omega⟩, ?_⟩
    have l10 : ∀ (K0 : MapH → List Bool → Prop), K0 x (fillS u a b k) → ∀ (m i : Nat), i + m = k → extent.Map_turn.l10 K0 (m + 1) (a : Int) b (k : Int) (i : Int) x (fillS u a b i) := by
      intro K0 hK m
      induction m with
      | zero =>
        intro i hi
        unfold extent.Map_turn.l10
        rw [lt_false (by omega), br_false, show i = k by omega]
        exact hK
      | succ m ih =>
        intro i hi
        unfold extent.Map_turn.l10
        rw [lt_true (by omega), br_true, wrap_small (n := (a : Int) + (i : Int)) (by omega) (by omega), wrap_succ i (by omega), fillS_len]
        refine ⟨⟨by omega, by omega⟩, by omega, ?_⟩
        rw [show ((a : Int) + (i : Int)).toNat = a + i from by omega]
        exact ih (i + 1) (by omega)
    have l4 : ∀ (m i : Nat), i + m = k → (∀ j, j < i → u.getD (a + j) false ≠ b) →
        extent.Map_turn.l4 K (fun at1 n2 taken3 o p => ∃ q, extent.Map_turn.l10 (fun o p => K true o p) q at1 taken3 n2 0 o p) (m + 1) (a : Int) (k : Int) b (a, k) ((k : Nat) : Int) (i : Int) x u := by
      intro m
      induction m with
      | zero =>
        intro i hi hall
        unfold extent.Map_turn.l4
        rw [lt_false (by omega), br_false]
        have he : ((List.range k).all fun j => u.getD (a + j) false != b) = true := by
          rw [List.all_eq_true]
          intro j hj
          rw [List.mem_range] at hj
          simpa using hall j (by omega)
        rw [he, if_pos rfl] at h
        exact ⟨k + 1, l10 _ h k 0 (by omega)⟩
      | succ m ih =>
        intro i hi hall
        unfold extent.Map_turn.l4
        rw [lt_true (by omega), br_true]
        refine ⟨⟨by omega, ?_⟩, ?_, ?_⟩
        · show (i : Int) < ((k : Nat) : Int)
          omega
        · show a + (i : Int).toNat < u.length
          omega
        · rw [eqT_bool, wrap_succ i (by omega)]
          show br (u.getD (a + (i : Int).toNat) false == b) _ _
          rw [Int.toNat_natCast]
          by_cases hb : u.getD (a + i) false = b
          · rw [show (u.getD (a + i) false == b) = true from by simpa using hb, br_true]
            have he : ((List.range k).all fun j => u.getD (a + j) false != b) = false := by
              rw [Bool.eq_false_iff]
              intro h
              rw [List.all_eq_true] at h
              have := h i (List.mem_range.2 (by omega))
              rw [hb] at this
              simp at this
            rw [he, if_neg (by simp)] at h
            exact h
          · rw [show (u.getD (a + i) false == b) = false from by simpa using hb, br_false]
            refine ih (i + 1) (by omega) fun j hj => ?_
            by_cases hji : j = i
            · rw [hji]; exact hb
            · exact hall j (by omega)
    exact ⟨k + 1, l4 k 0 (by omega) (fun j hj => by omega)⟩
theorem take_law (u : List Bool) (x : MapH) (at_ n : Int) (K : Bool → MapH → List Bool → Prop) (hu : u.length ≤ 1000000000000) (h : K (canS u at_ n true) x (turnS u at_ n true)) : extent.Map_Take at_ n x u K := turn_law u x at_ n true K hu h
theorem free_law (u : List Bool) (x : MapH) (at_ n : Int) (K : Bool → MapH → List Bool → Prop) (hu : u.length ≤ 1000000000000) (h : K (canS u at_ n false) x (turnS u at_ n false)) : extent.Map_Free at_ n x u K := turn_law u x at_ n false K hu h

theorem awake_law (K : Bool → Prop) (h : K true) : law06.awake K := by
  unfold law06.awake
  refine new_law 5 _ (by omega) (take_law _ _ _ _ _ (by simp) ?_)
  rw [show canS (List.replicate (5 : Int).toNat false) 1 2 true = true by decide, br_true, show turnS (List.replicate (5 : Int).toNat false) 1 2 true = [false, true, true, false, false] by decide]
  refine find_law _ _ _ _ (by simp) fun r hr => ?_
  have e : r = 3 := isFind_one hr (.inr ⟨by omega, .inr ⟨3, rfl, by decide, by decide⟩⟩)
  subst e
  rw [show ((3 : Int) == 3) = true from rfl, br_true]
  refine left_law _ _ _ (by simp) ?_
  exact h
end Go.Iw
/- ExtentHoles: the plain law. -/
namespace Go.Iw
open Go.Iv
set_option linter.unusedVariables false
set_option linter.unusedSimpArgs false
/-- How great a hole is; where it begins. -/
def holeD (l : List Int) (i : Nat) : Nat := (l.getD i 0).toNat % 7
def tot (l : List Int) : Nat → Nat
  | 0 => 0
  | i + 1 => tot l i + (holeD l i + 1)
theorem tot_succ {l : List Int} {i : Nat} : tot l (i + 1) = tot l i + (holeD l i + 1) := rfl
theorem tot_le {l : List Int} : ∀ {i : Nat}, tot l i ≤ 7 * i
  | 0 => by simp [tot]
  | i + 1 => by
    have := tot_le (l := l) (i := i)
    have h2 : holeD l i < 7 := Nat.mod_lt _ (by omega)
    rw [tot_succ]
    omega
theorem tot_mono {l : List Int} {i j : Nat} (h : i ≤ j) : tot l i ≤ tot l j := by
  induction h with
  | refl => exact Nat.le_refl _
  | step _ ih => rw [tot_succ]; omega
theorem count_set_true : ∀ {u : List Bool} {T : Nat}, u.getD T false = false → T < u.length → (u.set T true).count false + 1 = u.count false
  | [], T, _, h => by simp at h
  | b :: r, 0, h, _ => by
    have : b = false := by simpa using h
    subst this
    simp [List.count_cons]
  | b :: r, T + 1, h, hl => by
    have := count_set_true (u := r) (T := T) (by simpa using h) (by simpa using hl)
    simp only [List.set_cons_succ, List.count_cons]
    omega
structure HInv (l : List Int) (n k i : Nat) (u : List Bool) (first : Int) : Prop where
  len : u.length = n
  fr : ∀ j, tot l i ≤ j → u.getD j false = false
  last : i = 0 ∨ (1 ≤ tot l i ∧ u.getD (tot l i - 1) false = true)
  fs : (first = -1 ∧ ∀ a, a + k ≤ tot l i → ¬ okAt u a k) ∨ (∃ a : Nat, first = (a : Int) ∧ okAt u a k ∧ a + k ≤ tot l i ∧ ∀ b, b < a → ¬ okAt u b k)
  cnt : u.count false + i = n
theorem set_fill (u : List Bool) (T : Nat) : fillS u T true 1 = u.set T true := by
  show (u.set (T + 0) true) = _
  rfl
/-- More is taken: what wasn't free isn't. -/
theorem ok_set {u : List Bool} {T a k : Nat} (h : okAt (u.set T true) a k) (hT : T < u.length) : okAt u a k ∧ ¬ (a ≤ T ∧ T < a + k) := by
  obtain ⟨h1, h2⟩ := h
  rw [List.length_set] at h1
  have hno : ¬ (a ≤ T ∧ T < a + k) := by
    rintro ⟨h3, h4⟩
    have := h2 (T - a) (by omega)
    rw [getD_set, if_pos (by omega)] at this
    cases this
  refine ⟨⟨h1, fun j hj => ?_⟩, hno⟩
  have := h2 j hj
  rwa [getD_set, if_neg (by omega)] at this
theorem set_ok {u : List Bool} {T a k : Nat} (h : okAt u a k) (hT : ¬ (a ≤ T ∧ T < a + k)) : okAt (u.set T true) a k := by
  refine ⟨by rw [List.length_set]; exact h.1, fun j hj => ?_⟩
  rw [getD_set, if_neg (by omega)]
  exact h.2 j hj
theorem hInv_step {l : List Int} {n k i : Nat} {u : List Bool} {first : Int} (hk : 1 ≤ k) (h : HInv l n k i u first) (hT : tot l i + holeD l i < n) : HInv l n k (i + 1) (u.set (tot l i + holeD l i) true) (if first < 0 ∧ k ≤ holeD l i then (tot l i : Int) else first) := by
  have hTu : tot l i + holeD l i < u.length := by rw [h.len]; exact hT
  have t1 : tot l (i + 1) = tot l i + holeD l i + 1 := rfl
  have below : ∀ a, okAt (u.set (tot l i + holeD l i) true) a k → a < tot l i → a + k ≤ tot l i := by
    intro a ha hlt
    rcases Nat.lt_or_ge (tot l i) (a + k) with h1 | h1
    · exfalso
      rcases h.last with h0 | ⟨h2, h3⟩
      · subst h0; simp [tot] at hlt
      · have := (ok_set ha hTu).1.2 (tot l i - 1 - a) (by omega)
        rw [show a + (tot l i - 1 - a) = tot l i - 1 by omega, h3] at this
        cases this
    · exact h1
  refine ⟨by rw [List.length_set, h.len], fun j hj => ?_, .inr ⟨by omega, ?_⟩, ?_, ?_⟩
  · rw [t1] at hj
    rw [getD_set, if_neg (by omega)]
    exact h.fr j (by omega)
  · rw [t1, Nat.add_sub_cancel, getD_set, if_pos ⟨rfl, hTu⟩]
  · rcases h.fs with ⟨h1, h2⟩ | ⟨a, h1, h2, h3, h4⟩
    · by_cases hh : k ≤ holeD l i
      · rw [if_pos ⟨by omega, hh⟩]
        refine .inr ⟨tot l i, rfl, set_ok ⟨by omega, fun j hj => h.fr _ (by omega)⟩ (by omega), by omega, fun b hb hok => ?_⟩
        exact h2 b (below b hok hb) (ok_set hok hTu).1
      · rw [if_neg (by omega)]
        refine .inl ⟨h1, fun a ha hok => ?_⟩
        obtain ⟨o1, o2⟩ := ok_set hok hTu
        rcases Nat.lt_or_ge a (tot l i) with h5 | h5
        · exact h2 a (below a hok h5) o1
        · omega
    · rw [if_neg (by omega)]
      exact .inr ⟨a, h1, set_ok h2 (by omega), by omega, fun b hb hok => h4 b hb (ok_set hok hTu).1⟩
  · have := count_set_true (h.fr (tot l i + holeD l i) (by omega)) hTu
    have := h.cnt
    omega

theorem extentHoles (by_ : Nat → Nat) (l : List Int) (want : Int) (w0 : Wf by_ (.sl 5 (.int .u8)) l) (w1 : Wf by_ (.int .u8) want) (K : Bool → Prop) (h : K true) : law06.ExtentHoles l want K := by
  unfold law06.ExtentHoles law06.ExtentHoles.j4
  refine awake_law _ ?_
  rw [Bool.not_true, br_false]
  by_cases hlen : l.length > 20
  · rw [decide_eq_true (by omega), br_true]
    exact awake_law _ h
  rw [decide_eq_false (by omega), br_false]
  have elt : ∀ (i : Nat) (hi : i < l.length), IntKind.wrap .i64 (Int.tmod (ix 0 l (i : Int)) 7) = (holeD l i : Int) := by
    intro i hi
    have hx : 0 ≤ l[i] ∧ l[i] ≤ 255 := w0.1 l[i] (List.getElem_mem hi)
    rw [ix_nat _ _ _ hi]
    unfold holeD
    rw [List.getD_eq_getElem?_getD, List.getElem?_eq_getElem hi, Option.getD_some]
    obtain ⟨c, hcx⟩ := Int.eq_ofNat_of_zero_le hx.1
    rw [hcx, Int.toNat_natCast]
    have hm : Int.tmod (c : Int) 7 = ((c % 7 : Nat) : Int) := by rw [Int.tmod_eq_emod_of_nonneg (by omega)]; omega
    rw [hm, wrap_small (by omega) (by omega)]
  have hd : ∀ i, holeD l i < 7 := fun i => Nat.mod_lt _ (by omega)
  obtain ⟨n, hn⟩ : ∃ n, tot l l.length = n := ⟨_, rfl⟩
  have hn140 : n ≤ 140 := by have := tot_le (l := l) (i := l.length); omega
  have hw : 0 ≤ want ∧ want ≤ 255 := w1
  obtain ⟨c, hc⟩ := Int.eq_ofNat_of_zero_le hw.1
  have hkk : IntKind.wrap .i64 (1 + IntKind.wrap .i64 (Int.tmod want 7)) = ((c % 7 + 1 : Nat) : Int) := by
    rw [hc]
    have hm : Int.tmod (c : Int) 7 = ((c % 7 : Nat) : Int) := by rw [Int.tmod_eq_emod_of_nonneg (by omega)]; omega
    rw [hm, wrap_small (n := ((c % 7 : Nat) : Int)) (by omega) (by omega), wrap_small (by omega) (by omega)]
    omega
  obtain ⟨k, hk⟩ : ∃ k, c % 7 + 1 = k := ⟨_, rfl⟩
  rw [hk] at hkk
  have hk1 : 1 ≤ k := by omega
  have hk7 : k ≤ 7 := by omega
  have l5 : ∀ (K0 : List Int → Int → Int → Prop), K0 l want (n : Int) → ∀ (m i : Nat), i + m = l.length → law06.ExtentHoles.l5 K0 (m + 1) l want (tot l i : Int) (i : Int) := by
    intro K0 hK m
    induction m with
    | zero =>
      intro i hi
      unfold law06.ExtentHoles.l5
      rw [lt_false (by omega), br_false, show i = l.length by omega, hn]
      exact hK
    | succ m ih =>
      intro i hi
      have hlt : i < l.length := by omega
      have h1 := tot_le (l := l) (i := i)
      have h2 := hd i
      unfold law06.ExtentHoles.l5
      rw [lt_true hlt, br_true]
      refine ⟨⟨by omega, by omega⟩, by omega, ?_⟩
      rw [elt i hlt, wrap_succ _ (by omega), wrap_succ _ (by omega)]
      rw [show (tot l i : Int) + ((holeD l i + 1 : Nat) : Int) = ((tot l (i + 1) : Nat) : Int) from by rw [tot_succ]; omega]
      rw [wrap_small (by have := tot_le (l := l) (i := i + 1); omega) (by have := tot_le (l := l) (i := i + 1); omega)]
      exact ih (i + 1) (by omega)
  refine ⟨l.length + 1, l5 _ ?_ l.length 0 (by omega)⟩
  refine new_law _ _ (by omega) ⟨by omega, ?_⟩
  rw [hkk, Int.toNat_natCast]
  have l13 : ∀ (K0 : Bool → Prop) (K1 : List Int → Int → Int → Int → MapH → List Bool → Prop), (∀ u first, HInv l n k l.length u first → K1 l (n : Int) first (k : Int) ((), ()) u) → ∀ (m i : Nat) (u : List Bool) (first : Int), i + m = l.length → HInv l n k i u first →
      law06.ExtentHoles.l13 K0 K1 (m + 1) l (n : Int) (tot l i : Int) first (k : Int) (i : Int) ((), ()) u := by
    intro K0 K1 hK m
    induction m with
    | zero =>
      intro i u first hi hv
      unfold law06.ExtentHoles.l13
      rw [lt_false (by omega), br_false]
      obtain rfl : i = l.length := by omega
      exact hK u first hv
    | succ m ih =>
      intro i u first hi hv
      have hlt : i < l.length := by omega
      have h1 := tot_le (l := l) (i := i)
      have h2 := hd i
      have hT : tot l i + holeD l i < n := by
        have := tot_mono (l := l) (i := i + 1) (j := l.length) (by omega)
        have e : tot l (i + 1) = tot l i + (holeD l i + 1) := rfl
        omega
      have hul := hv.len
      have stp : ∀ first', (if first < 0 ∧ k ≤ holeD l i then (tot l i : Int) else first) = first' → law06.ExtentHoles.j73 K0 (fun holes0 n5 at8 first9 k10 i11 ot37 ot14 => law06.ExtentHoles.l13 K0 K1 (m + 1) holes0 n5 at8 first9 k10 i11 ot37 ot14) l (n : Int) (tot l i : Int) first' (k : Int) (i : Int) (holeD l i : Int) ((), ()) u := by
        intro first' hf
        have hv' := hInv_step hk1 hv hT
        rw [hf] at hv'
        unfold law06.ExtentHoles.j73
        rw [show (tot l i : Int) + (holeD l i : Int) = ((tot l i + holeD l i : Nat) : Int) from by omega, wrap_small (n := ((tot l i + holeD l i : Nat) : Int)) (by omega) (by omega)]
        refine take_law _ _ _ _ _ (by omega) ?_
        have hcan : canS u ((tot l i + holeD l i : Nat) : Int) 1 true = true := by
          unfold canS spanS
          rw [Bool.and_eq_true, decide_eq_true_eq, List.all_eq_true, hv.len]
          refine ⟨⟨by omega, by omega, by omega, by omega⟩, fun j hj => ?_⟩
          have hj : j = 0 := by simpa using hj
          subst hj
          rw [Int.toNat_natCast, hv.fr _ (by omega)]
          rfl
        rw [hcan, Bool.not_true, br_false]
        rw [show turnS u ((tot l i + holeD l i : Nat) : Int) 1 true = u.set (tot l i + holeD l i) true from by unfold turnS; rw [if_pos hcan]; exact set_fill u _]
        unfold law06.ExtentHoles.j85
        rw [wrap_succ (holeD l i) (by omega), wrap_succ i (by omega)]
        rw [show (tot l i : Int) + ((holeD l i + 1 : Nat) : Int) = ((tot l (i + 1) : Nat) : Int) from by rw [tot_succ]; omega]
        rw [wrap_small (n := ((tot l (i + 1) : Nat) : Int)) (by omega) (by rw [tot_succ]; omega)]
        exact ih (i + 1) _ _ (by omega) hv'
      unfold law06.ExtentHoles.l13
      rw [lt_true hlt, br_true]
      refine ⟨⟨by omega, by omega⟩, by omega, ?_⟩
      rw [elt i hlt]
      unfold law06.ExtentHoles.j34
      by_cases hf : first < 0
      · rw [decide_eq_true hf, br_true]
        by_cases hh : k ≤ holeD l i
        · rw [decide_eq_true (by omega), br_true]
          exact stp _ (if_pos ⟨hf, hh⟩)
        · rw [decide_eq_false (by omega), br_false]
          exact stp _ (if_neg (fun e => hh e.2))
      · rw [decide_eq_false hf, br_false, br_false]
        exact stp _ (if_neg (fun e => hf e.1))
  have v0 : HInv l n k 0 (List.replicate n false) (-1) := by
    refine ⟨by simp, fun j _ => ?_, .inl rfl, .inl ⟨rfl, fun a ha _ => ?_⟩, by simp⟩
    · rw [List.getD_eq_getElem?_getD, List.getElem?_replicate]
      split <;> rfl
    · simp [tot] at ha; omega
  refine ⟨l.length + 1, l13 _ _ (fun u first hv => ?_) l.length 0 _ (-1) (by omega) v0⟩
  have hul := hv.len
  refine find_law _ _ _ _ (by omega) fun r hr => ?_
  have e2 : r = first := by
    refine isFind_one hr (.inr ⟨by omega, ?_⟩)
    rw [Int.toNat_natCast]
    rcases hv.fs with ⟨h1, h2⟩ | ⟨a, h1, h2, h3, h4⟩
    · refine .inl ⟨h1, fun a ha => h2 a ?_ ha⟩
      have := ha.1
      omega
    · exact .inr ⟨a, h1, h2, h4⟩
  subst e2
  rw [show (r == r) = true from by simp, br_true]
  refine left_law _ _ _ (by omega) ?_
  have := hv.cnt
  rw [wrap_small (by omega) (by omega)]
  rw [show (((u.count false : Nat) : Int) == (n : Int) - (l.length : Int)) = true from by simp; omega]
  exact h
end Go.Iw
