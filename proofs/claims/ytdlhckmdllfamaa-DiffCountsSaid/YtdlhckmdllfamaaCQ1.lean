/- Plain laws: charts whose numbers rise. -/
import Derived.Test.YtdlhckmdllfamaaCPl
import Derived.Test.YtdlhckmdllfamaaIvK
namespace Go.Iw
open Go.Iv
set_option linter.unusedVariables false
set_option linter.unusedSimpArgs false

@[simp] theorem br_true (X Y : Prop) : br true X Y = X := rfl
@[simp] theorem br_false (X Y : Prop) : br false X Y = Y := rfl

theorem wrap_small {n : Int} (h1 : -9223372036854775808 ≤ n) (h2 : n ≤ 9223372036854775807) : IntKind.wrap .i64 n = n := by
  rw [IntKind.wrap_i64]; omega
theorem wrap_small_u {n : Int} (h1 : 0 ≤ n) (h2 : n ≤ 18446744073709551615) : IntKind.wrap .u64 n = n := by
  rw [IntKind.wrap_u64]; omega
theorem wrap_small_u8 {n : Int} (h1 : 0 ≤ n) (h2 : n ≤ 255) : IntKind.wrap .u8 n = n := by
  rw [IntKind.wrap_u8]; omega
theorem ba_beq (x y : ByteArray) : (x == y) = decide (x = y) := by
  obtain ⟨x⟩ := x
  obtain ⟨y⟩ := y
  show (x == y) = _
  rw [Bool.eq_iff_iff]
  simp
theorem ix_nat {α : Type} (z : α) (c : List α) (i : Nat) (h : i < c.length) : ix z c (i : Int) = c[i] := by
  simp [ix, List.getD_eq_getElem?_getD, List.getElem?_eq_getElem h]
theorem wrap_succ (i : Nat) (h : i < 9223372036854775807) : IntKind.wrap .i64 ((i : Int) + 1) = ((i + 1 : Nat) : Int) := by
  rw [wrap_small (by omega) (by omega)]; omega
theorem lt_true {i n : Nat} (h : i < n) : decide ((i : Int) < (n : Int)) = true := by simp; omega
theorem lt_false {i n : Nat} (h : n ≤ i) : decide ((i : Int) < (n : Int)) = false := by simp; omega

/-- Its numbers rise. -/
def Ris (c : List Elem) : Prop := c.Pairwise fun x y => x.1 < y.1
instance (c : List Elem) : Decidable (Ris c) := by unfold Ris; infer_instance
def lows (n : Int) (c : List Elem) : List Elem := c.filter fun x => decide (x.1 < n)
def highs (n : Int) (c : List Elem) : List Elem := c.filter fun x => decide (n < x.1)
def here (n : Int) (c : List Elem) : List Elem := c.filter fun x => x.1 == n
def hasN (n : Int) (c : List Elem) : Bool := !(here n c).isEmpty
def putS (c : List Elem) (e : Elem) : List Elem := lows e.1 c ++ e :: highs e.1 c
def dropS (c : List Elem) (n : Int) : List Elem := c.filter fun x => x.1 != n
def findS (c : List Elem) (n : Int) : Elem := (here n c).headD Elem.z

theorem ris_cons {x : Elem} {c : List Elem} : Ris (x :: c) ↔ (∀ y ∈ c, x.1 < y.1) ∧ Ris c := List.pairwise_cons
theorem ris_filter {c : List Elem} (p : Elem → Bool) (h : Ris c) : Ris (c.filter p) := List.Pairwise.filter p h

theorem all_high {n : Int} : ∀ {c : List Elem}, (∀ y ∈ c, n < y.1) → lows n c = [] ∧ here n c = [] ∧ highs n c = c
  | c, h => by
    refine ⟨List.filter_eq_nil_iff.2 fun y hy => ?_, List.filter_eq_nil_iff.2 fun y hy => ?_, List.filter_eq_self.2 fun y hy => ?_⟩ <;> have := h y hy <;> simp <;> omega

theorem ris_split (n : Int) : ∀ (c : List Elem), Ris c → c = lows n c ++ (here n c ++ highs n c)
  | [], _ => rfl
  | x :: c, h => by
    have h1 := (ris_cons.1 h).1
    have ih := ris_split n c (ris_cons.1 h).2
    rcases Int.lt_trichotomy x.1 n with hx | hx | hx
    · have a : lows n (x :: c) = x :: lows n c := by simp [lows, hx]
      have b : here n (x :: c) = here n c := List.filter_cons_of_neg (by simp; omega)
      have d : highs n (x :: c) = highs n c := List.filter_cons_of_neg (by simp; omega)
      rw [a, b, d, List.cons_append, ← ih]
    · obtain ⟨p, q, r⟩ := all_high (n := n) (c := c) fun y hy => by have := h1 y hy; omega
      have a : lows n (x :: c) = lows n c := List.filter_cons_of_neg (by simp; omega)
      have b : here n (x :: c) = x :: here n c := by simp [here, hx]
      have d : highs n (x :: c) = highs n c := List.filter_cons_of_neg (by simp; omega)
      rw [a, b, d, p, q, r]; rfl
    · obtain ⟨p, q, r⟩ := all_high (n := n) (c := x :: c) fun y hy => by
        rcases List.mem_cons.1 hy with rfl | hy
        · exact hx
        · have := h1 y hy; omega
      rw [p, q, r]; rfl

theorem here_one {n : Int} {c : List Elem} (h : Ris c) {x : Elem} {r : List Elem} (hx : here n c = x :: r) : r = [] ∧ x.1 = n := by
  have h1 : Ris (x :: r) := hx ▸ ris_filter _ h
  have h2 : ∀ y ∈ here n c, y.1 = n := fun y hy => by simpa using (List.mem_filter.1 hy).2
  rw [hx] at h2
  refine ⟨?_, h2 x (by simp)⟩
  cases r with
  | nil => rfl
  | cons y r =>
    have a := (ris_cons.1 h1).1 y (by simp)
    have b := h2 x (by simp)
    have d := h2 y (by simp)
    omega
theorem here_cases {n : Int} {c : List Elem} (h : Ris c) : here n c = [] ∨ ∃ x, here n c = [x] ∧ x.1 = n := by
  cases hx : here n c with
  | nil => exact .inl rfl
  | cons x r => obtain ⟨rfl, e⟩ := here_one h hx; exact .inr ⟨x, rfl, e⟩

theorem filter_len_le {c : List Elem} (p : Elem → Bool) : (c.filter p).length ≤ c.length := List.length_filter_le ..

theorem drop_eq (n : Int) (c : List Elem) (h : Ris c) : dropS c n = lows n c ++ highs n c := by
  have e : ∀ d, dropS d n = d.filter fun x => x.1 != n := fun _ => rfl
  rw [e]
  conv => lhs; rw [ris_split n c h]
  rw [List.filter_append, List.filter_append]
  have a : (lows n c).filter (fun x => x.1 != n) = lows n c := List.filter_eq_self.2 fun y hy => by have := (List.mem_filter.1 hy).2; simp at this ⊢; omega
  have b : (here n c).filter (fun x => x.1 != n) = [] := List.filter_eq_nil_iff.2 fun y hy => by have := (List.mem_filter.1 hy).2; simp at this ⊢; omega
  have d : (highs n c).filter (fun x => x.1 != n) = highs n c := List.filter_eq_self.2 fun y hy => by have := (List.mem_filter.1 hy).2; simp at this ⊢; omega
  rw [a, b, d]; rfl

theorem put_ris {c : List Elem} (e : Elem) (h : Ris c) : Ris (putS c e) := by
  unfold putS
  refine List.pairwise_append.2 ⟨ris_filter _ h, ris_cons.2 ⟨fun y hy => by simpa using (List.mem_filter.1 hy).2, ris_filter _ h⟩, ?_⟩
  intro a ha b hb
  have ha : a.1 < e.1 := by simpa using (List.mem_filter.1 ha).2
  rcases List.mem_cons.1 hb with rfl | hb
  · exact ha
  · have hb : e.1 < b.1 := by simpa using (List.mem_filter.1 hb).2
    omega
theorem drop_ris {c : List Elem} (n : Int) (h : Ris c) : Ris (dropS c n) := ris_filter _ h
theorem lowhigh_len (n : Int) : ∀ (c : List Elem), (lows n c).length + (highs n c).length ≤ c.length
  | [] => by simp [lows, highs]
  | x :: c => by
    have := lowhigh_len n c
    simp only [lows, highs, List.filter_cons] at this ⊢
    by_cases h1 : x.1 < n <;> by_cases h2 : n < x.1 <;> simp [h1, h2] <;> omega
theorem put_len (c : List Elem) (e : Elem) : (putS c e).length ≤ c.length + 1 := by
  have := lowhigh_len e.1 c
  simp [putS]; omega
theorem drop_len (c : List Elem) (n : Int) : (dropS c n).length ≤ c.length := filter_len_le _

/-- What one gets at a number. -/
theorem mem_here {n : Int} {c : List Elem} {x : Elem} : x ∈ here n c ↔ x ∈ c ∧ x.1 = n := by simp [here]
theorem here_put (c : List Elem) (e : Elem) : here e.1 (putS c e) = [e] := by
  simp only [here, putS, List.filter_append, List.filter_cons]
  rw [List.filter_eq_nil_iff.2, List.filter_eq_nil_iff.2] <;> simp [lows, highs] <;> intros <;> omega

/-! Places. -/
def cmpI (a b : Int) : Int := if a < b then -1 else if a > b then 1 else 0
theorem cmp_law (a b : Int) (K : Int → Prop) (h : K (cmpI a b)) : cmp.Compare_int a b K := by
  unfold cmp.Compare_int cmp.isNaN_int
  unfold cmpI at h
  simp only [bne_self_eq_false, br_false]
  by_cases h1 : a < b
  · simpa [h1] using h
  · by_cases h2 : a > b
    · simpa [h1, h2] using h
    · simpa [h1, h2] using h

theorem half (i j : Nat) (h : i < j) (hj : j ≤ 1000000) : IntKind.wrap .i64 (Int.fdiv (IntKind.wrap .u64 (IntKind.wrap .i64 ((i : Int) + (j : Int)))) (HPow.hPow (2 : Int) (Int.toNat (1 : Int)))) = (((i + j) / 2 : Nat) : Int) := by
  have e : (HPow.hPow (2 : Int) (Int.toNat (1 : Int)) : Int) = 2 := rfl
  rw [wrap_small (n := (i : Int) + j) (by omega) (by omega), wrap_small_u (by omega) (by omega), e, Int.fdiv_eq_ediv_of_nonneg _ (by omega), wrap_small (by omega) (by omega)]
  omega

theorem low_len (c : List Elem) (n : Int) (i : Nat) (hi : i ≤ c.length) (h1 : ∀ a (h : a < c.length), a < i → c[a].1 < n) (h2 : ∀ a (h : a < c.length), i ≤ a → ¬ c[a].1 < n) : (lows n c).length = i := by
  have e : lows n c = (c.take i).filter (fun x => decide (x.1 < n)) ++ (c.drop i).filter (fun x => decide (x.1 < n)) := by
    rw [← List.filter_append, List.take_append_drop]; rfl
  rw [e, List.filter_eq_self.2, List.filter_eq_nil_iff.2]
  · simp; omega
  · intro x hx
    obtain ⟨a, ha, rfl⟩ := List.mem_iff_getElem.1 hx
    rw [List.getElem_drop]
    have := h2 (i + a) (by rw [List.length_drop] at ha; omega) (by omega)
    simpa using this
  · intro x hx
    obtain ⟨a, ha, rfl⟩ := List.mem_iff_getElem.1 hx
    rw [List.getElem_take]
    rw [List.length_take] at ha
    have := h1 a (by omega) (by omega)
    simpa using this

theorem ris_get {c : List Elem} (h : Ris c) (a b : Nat) (hb : b < c.length) (hab : a < b) : (c[a]'(by omega)).1 < c[b].1 := List.pairwise_iff_getElem.1 h a b (by omega) hb hab

theorem place_loop (c : List Elem) (id : Int) (K0 : List Elem → Int → Int → Int → Prop) (hs : Ris c) (hc : c.length ≤ 1000000) : ∀ (k i j n : Nat), j - i ≤ k → k < n → i ≤ j → j ≤ c.length →
    (∀ a (h : a < c.length), a < i → c[a].1 < id) → (∀ a (h : a < c.length), j ≤ a → ¬ c[a].1 < id) →
    K0 c id ((c.length : Nat) : Int) (((lows id c).length : Nat) : Int) → slices.BinarySearchFunc_Chart_Elem_int.l3 K0 n c id ((c.length : Nat) : Int) (i : Int) (j : Int)
  | k, i, j, 0, _, hn, _, _, _, _, _ => by omega
  | k, i, j, n + 1, hk, hn, hij, hj, h1, h2, h => by
    simp only [slices.BinarySearchFunc_Chart_Elem_int.l3]
    by_cases hlt : i < j
    · rw [lt_true hlt, br_true, half i j hlt (by omega)]
      have hm : (i + j) / 2 < c.length := by omega
      refine ⟨⟨by omega, by omega⟩, ⟨by omega, by omega⟩, cmp_law _ _ _ ?_⟩
      rw [ix_nat _ _ _ hm, wrap_succ _ (by omega)]
      by_cases hx : c[(i + j) / 2].1 < id
      · have e : decide (cmpI c[(i + j) / 2].1 id < 0) = true := by simp [cmpI, hx]
        rw [e, br_true]
        refine place_loop c id K0 hs hc (k - 1) _ _ n (by omega) (by omega) (by omega) hj ?_ h2 h
        intro a ha hai
        rcases Nat.lt_or_ge a ((i + j) / 2) with hb | hb
        · have := ris_get hs a _ hm hb; omega
        · have : a = (i + j) / 2 := by omega
          subst this; exact hx
      · have e : decide (cmpI c[(i + j) / 2].1 id < 0) = false := by
          simp only [cmpI, hx, if_false]; split <;> simp
        rw [e, br_false]
        refine place_loop c id K0 hs hc (k - 1) _ _ n (by omega) (by omega) (by omega) (by omega) h1 ?_ h
        intro a ha hai
        rcases Nat.lt_or_ge ((i + j) / 2) a with hb | hb
        · have := ris_get hs _ a ha hb; omega
        · have : a = (i + j) / 2 := by omega
          subst this; exact hx
    · have : i = j := by omega
      subst this
      rw [lt_false (Nat.le_refl _), br_false]
      rw [low_len c id i hj h1 h2] at h
      exact h

theorem take_low {c : List Elem} (n : Int) (h : Ris c) : c.take (lows n c).length = lows n c := by
  conv => lhs; arg 2; rw [ris_split n c h]
  exact List.take_left
theorem drop_low {c : List Elem} (n : Int) (h : Ris c) : c.drop (lows n c).length = here n c ++ highs n c := by
  conv => lhs; arg 2; rw [ris_split n c h]
  exact List.drop_left

theorem place_law (c : List Elem) (id : Int) (K : Int → Bool → Prop) (hs : Ris c) (hc : c.length ≤ 1000000) (h : K (((lows id c).length : Nat) : Int) (hasN id c)) : chart.place c id K := by
  unfold chart.place slices.BinarySearchFunc_Chart_Elem_int
  refine ⟨c.length + 1, ?_⟩
  refine place_loop c id _ hs hc c.length 0 c.length _ (by omega) (by omega) (by omega) (by omega) (fun a _ h => by omega) (fun a h h' => by omega) ?_
  have hd := drop_low id hs
  by_cases hl : (lows id c).length < c.length
  · rw [lt_true hl, br_true]
    refine ⟨⟨by omega, by omega⟩, cmp_law _ _ _ ?_⟩
    rw [ix_nat _ _ _ hl]
    rw [List.drop_eq_getElem_cons hl] at hd
    have e : (cmpI c[(lows id c).length].1 id == 0) = hasN id c := by
      rcases here_cases (n := id) hs with h0 | ⟨x, h0, hx⟩
      · rw [h0, List.nil_append] at hd
        have hm : c[(lows id c).length] ∈ highs id c := by rw [← hd]; exact List.mem_cons_self
        have hm : id < c[(lows id c).length].1 := by simpa using (List.mem_filter.1 hm).2
        have : ¬ c[(lows id c).length].1 < id := by omega
        simp [hasN, h0, cmpI, this, hm]
      · rw [h0] at hd
        have hm : c[(lows id c).length] = x := by injection hd
        rw [hm, hx]; simp [hasN, h0, cmpI]
    rw [e]; exact h
  · rw [lt_false (by omega), br_false]
    have e : hasN id c = false := by
      rw [List.drop_eq_nil_of_le (by omega)] at hd
      have : here id c = [] := (List.append_eq_nil_iff.1 hd.symm).1
      simp [hasN, this]
    rw [e] at h; exact h

theorem low_le (n : Int) (c : List Elem) : (lows n c).length ≤ c.length := filter_len_le _
theorem low_lt {n : Int} {c : List Elem} (hs : Ris c) {x : Elem} (h0 : here n c = [x]) : (lows n c).length < c.length := by
  have e := congrArg List.length (ris_split n c hs)
  rw [h0] at e
  simp at e; omega

theorem cFind_law (c : List Elem) (id : Int) (K : Elem → Bool → Prop) (hs : Ris c) (hc : c.length ≤ 1000000) (h : K (findS c id) (hasN id c)) : chart.Find c id K := by
  unfold chart.Find
  refine place_law c id _ hs hc ?_
  rcases here_cases (n := id) hs with h0 | ⟨x, h0, hx⟩
  · have e : hasN id c = false := by simp [hasN, h0]
    have e2 : findS c id = Elem.z := by simp [findS, h0]
    rw [e, e2] at h
    rw [e]
    exact h
  · have e : hasN id c = true := by simp [hasN, h0]
    have e2 : findS c id = x := by simp [findS, h0]
    have hl := low_lt hs h0
    have hd := drop_low id hs
    rw [List.drop_eq_getElem_cons hl, h0] at hd
    have hm : c[(lows id c).length] = x := by injection hd
    rw [e, e2] at h
    rw [e]
    refine ⟨⟨by omega, by omega⟩, ?_⟩
    rw [ix_nat _ _ _ hl, hm]; exact h

theorem cPut_law (c : List Elem) (e : Elem) (K : List Elem → Prop) (hs : Ris c) (hc : c.length ≤ 1000000) (h : K (putS c e)) : chart.Put c e K := by
  unfold chart.Put
  refine place_law c e.1 _ hs hc ?_
  refine ⟨⟨by omega, by omega⟩, ?_⟩
  have hl := low_le e.1 c
  rcases here_cases (n := e.1) hs with h0 | ⟨x, h0, hx⟩
  · have eb : hasN e.1 c = false := by simp [hasN, h0]
    rw [eb, br_false]
    refine ⟨⟨⟨by omega, by omega⟩, by omega, by omega⟩, ?_⟩
    rw [Int.toNat_natCast, take_low _ hs, drop_low _ hs, h0]
    exact h
  · have eb : hasN e.1 c = true := by simp [hasN, h0]
    have hl := low_lt hs h0
    rw [eb, br_true]
    refine ⟨⟨by omega, by omega⟩, by omega, ?_⟩
    rw [Int.toNat_natCast]
    have : List.set c (lows e.1 c).length e = putS c e := by
      conv => lhs; arg 1; rw [ris_split e.1 c hs]
      rw [List.set_append_right _ _ (Nat.le_refl _), Nat.sub_self, h0]; rfl
    rw [this]; exact h

theorem cDrop_law (c : List Elem) (id : Int) (K : List Elem → Prop) (hs : Ris c) (hc : c.length ≤ 1000000) (h : K (dropS c id)) : chart.Drop c id K := by
  unfold chart.Drop
  refine place_law c id _ hs hc ?_
  rw [drop_eq id c hs] at h
  rcases here_cases (n := id) hs with h0 | ⟨x, h0, hx⟩
  · have eb : hasN id c = false := by simp [hasN, h0]
    rw [eb, Bool.not_false, br_true]
    refine ⟨⟨by omega, by omega⟩, ?_⟩
    have e := ris_split id c hs
    rw [h0, List.nil_append] at e
    rw [← e] at h; exact h
  · have eb : hasN id c = true := by simp [hasN, h0]
    have hl := low_lt hs h0
    rw [eb, Bool.not_true, br_false]
    refine ⟨⟨by omega, by omega⟩, ⟨⟨by omega, by omega⟩, ?_, ?_⟩, ?_⟩
    · rw [wrap_succ _ (by omega)]; omega
    · rw [wrap_succ _ (by omega)]; omega
    rw [Int.toNat_natCast, take_low _ hs, ← List.drop_drop, drop_low _ hs, h0]
    exact h

theorem cRising_loop (c : List Elem) (K0 : Bool → Prop) (hc : c.length ≤ 1000000) (h : K0 (decide (Ris c))) : ∀ (k i n : Nat), c.length - i ≤ k → k < n → 1 ≤ i →
    (∀ a b (hb : b < c.length) (hab : a < b), b < i → (c[a]'(Nat.lt_trans hab hb)).1 < c[b].1) → chart.Rising.l2 K0 (K0 true) n c (i : Int)
  | k, i, 0, _, hn, _, _ => by omega
  | k, i, n + 1, hk, hn, h1, hr => by
    simp only [chart.Rising.l2]
    by_cases hlt : i < c.length
    · have hw : IntKind.wrap .i64 ((i : Int) - 1) = ((i - 1 : Nat) : Int) := by rw [wrap_small (by omega) (by omega)]; omega
      rw [lt_true hlt, br_true, hw]
      refine ⟨⟨by omega, by omega⟩, ⟨by omega, by omega⟩, ?_⟩
      rw [ix_nat _ _ _ (by omega : i - 1 < c.length), ix_nat _ _ _ hlt, wrap_succ _ (by omega)]
      by_cases hx : (c[i - 1]'(by omega)).1 ≥ c[i].1
      · rw [decide_eq_true hx, br_true]
        have : ¬ Ris c := fun hs => by have := ris_get hs (i - 1) i hlt (by omega); omega
        rw [decide_eq_false this] at h; exact h
      · rw [decide_eq_false hx, br_false]
        refine cRising_loop c K0 hc h (k - 1) (i + 1) n (by omega) (by omega) (by omega) ?_
        intro a b hb hab hbi
        rcases Nat.lt_or_ge b i with hbi' | hbi'
        · exact hr a b hb hab hbi'
        · have : b = i := by omega
          subst this
          rcases Nat.lt_or_ge a (b - 1) with h3 | h3
          · have := hr a (b - 1) (by omega) h3 (by omega); omega
          · have : a = b - 1 := by omega
            subst this; omega
    · rw [lt_false (by omega), br_false]
      have : Ris c := List.pairwise_iff_getElem.2 fun a b _ hb hab => hr a b hb hab (by omega)
      rw [decide_eq_true this] at h; exact h
theorem cRising_law (c : List Elem) (K : Bool → Prop) (hc : c.length ≤ 1000000) (h : K (decide (Ris c))) : chart.Rising c K :=
  ⟨c.length + 1, cRising_loop c K hc h c.length 1 _ (by omega) (by omega) (by omega) (fun a b hb h1 h2 => by omega)⟩
end Go.Iw
