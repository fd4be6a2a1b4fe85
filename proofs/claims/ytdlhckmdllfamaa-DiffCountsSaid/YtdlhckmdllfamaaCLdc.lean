/- DiffCounts: the plain law. -/
import Derived.Test.YtdlhckmdllfamaaCQ16
namespace Go.Iw
open Go.Iv
set_option linter.unusedVariables false
set_option linter.unusedSimpArgs false

theorem step_exact {w c out : List Elem} {e : Elem} (hs : Ris c) (he : e ∈ c) : (stepO w out e).length + leftO w c (stepO w out e) = out.length + leftO w c out := by
  unfold stepO
  cases hn : nowS w out e.1 with
  | true => simp
  | false =>
    rw [if_neg (by simp)]
    cases hp : (e.2.2.1 == 0 || nowS w out e.2.2.1) with
    | false => simp
    | true =>
      have := left_exact (w := w) hn hs he
      rw [if_pos rfl]; simp; omega
theorem fold_exact {w c : List Elem} (hs : Ris c) : ∀ (l out : List Elem), (∀ e : Elem, e ∈ l → e ∈ c) → (l.foldl (stepO w) out).length + leftO w c (l.foldl (stepO w) out) = out.length + leftO w c out
  | [], out, _ => rfl
  | e :: l, out, h => by
    have a := step_exact (w := w) (out := out) hs (h e (by simp))
    have b := fold_exact (w := w) hs l (stepO w out e) fun y hy => h y (by simp [hy])
    rw [List.foldl_cons]; omega
theorem iter_exact {w c : List Elem} (hs : Ris c) : ∀ (k : Nat) (out : List Elem), (iterO w c k out).length + leftO w c (iterO w c k out) = out.length + leftO w c out
  | 0, out => rfl
  | k + 1, out => by
    have a := iter_exact (w := w) hs k (passO w c out)
    have b := fold_exact (w := w) hs c out fun _ h => h
    show (iterO w c k (passO w c out)).length + leftO w c (iterO w c k (passO w c out)) = _
    rw [a]; exact b
theorem order_count {c w : List Elem} (hs : Ris c) (h : okO c w = true) : (orderS c w).length = (c.filter fun e => !(hasN e.1 w)).length := by
  have hl : leftO w c (orderS c w) = 0 := of_decide_eq_true h
  have a := iter_exact (w := w) hs (c.length + 1) []
  have a : (orderS c w).length + leftO w c (orderS c w) = 0 + leftO w c [] := a
  rw [hl] at a
  have : leftO w c [] = (c.filter fun e => !(hasN e.1 w)).length := by
    unfold leftO; simp only [nowS_nil]
  omega
/-- How many, at a number. -/
def cntS (x y : List Elem) (n : Int) : Nat := if hasN n x = false ∨ hasN n y = false then 1 else (setsS (findS x n) (findS y n)).length
def sumN (g : Int → Nat) : List Int → Nat
  | [] => 0
  | n :: r => g n + sumN g r
theorem sumN_append (g : Int → Nat) : ∀ a b : List Int, sumN g (a ++ b) = sumN g a + sumN g b
  | [], b => by simp [sumN]
  | n :: a, b => by show g n + sumN g (a ++ b) = _; rw [sumN_append g a b]; simp [sumN]; omega
theorem sumN_part (g : Int → Nat) (p : Int → Bool) : ∀ l : List Int, sumN g l = sumN g (l.filter p) + sumN g (l.filter fun n => !(p n))
  | [] => rfl
  | n :: r => by
    have := sumN_part g p r
    cases h : p n <;> simp [List.filter_cons, h, sumN] <;> omega
theorem ris_nums {c : List Elem} (h : Ris c) : RisI (c.map (·.1)) := List.pairwise_map.2 h
theorem ids_part {x y : List Elem} (hx : Ris x) (hy : Ris y) (ids : List Int) (hr : RisI ids) (hm : ∀ n, n ∈ ids ↔ hasN n x = true ∨ hasN n y = true) :
    ids.filter (fun n => hasN n x) = x.map (·.1) ∧ ids.filter (fun n => !(hasN n x)) = (y.filter fun e => !(hasN e.1 x)).map (·.1) := by
  constructor
  · refine risI_ext (List.Pairwise.filter _ hr) (ris_nums hx) fun n => ?_
    rw [List.mem_filter, hm, List.mem_map]
    constructor
    · rintro ⟨_, h⟩
      obtain ⟨e, he, rfl⟩ := hasN_iff.1 h
      exact ⟨e, he, rfl⟩
    · rintro ⟨e, he, rfl⟩
      have := hasN_iff.2 ⟨e, he, rfl⟩
      exact ⟨.inl this, this⟩
  · refine risI_ext (List.Pairwise.filter _ hr) (ris_nums (ris_filter _ hy)) fun n => ?_
    rw [List.mem_filter, hm, List.mem_map]
    constructor
    · rintro ⟨h1 | h1, h⟩
      · rw [h1] at h; cases h
      · obtain ⟨e, he, rfl⟩ := hasN_iff.1 h1
        exact ⟨e, List.mem_filter.2 ⟨he, h⟩, rfl⟩
    · rintro ⟨e, he, rfl⟩
      obtain ⟨h1, h2⟩ := List.mem_filter.1 he
      exact ⟨.inr (hasN_iff.2 ⟨e, h1, rfl⟩), h2⟩
theorem sum_one (g : Int → Nat) : ∀ l : List Int, (∀ n, n ∈ l → g n = 1) → sumN g l = l.length
  | [], _ => rfl
  | n :: r, h => by
    show g n + sumN g r = _
    rw [h n (by simp), sum_one g r fun m hm => h m (by simp [hm])]; simp; omega
theorem sum_sets (x y : List Elem) (hx : Ris x) : ∀ l : List Elem, (∀ e : Elem, e ∈ l → e ∈ x) → sumN (cntS x y) (l.map (·.1)) = (l.flatMap (setsOf y)).length + (l.filter fun e => !(hasN e.1 y)).length
  | [], _ => rfl
  | e :: l, h => by
    have ih := sum_sets x y hx l fun z hz => h z (by simp [hz])
    have he := h e (by simp)
    have hn : hasN e.1 x = true := hasN_iff.2 ⟨e, he, rfl⟩
    show cntS x y e.1 + sumN (cntS x y) (l.map (·.1)) = _
    rw [ih, List.flatMap_cons, List.length_append]
    unfold cntS setsOf
    rw [hn, findS_eq hx he rfl]
    cases hy : hasN e.1 y with
    | true => simp [List.filter_cons, hy]; omega
    | false => simp [List.filter_cons, hy]; omega
theorem diff_counts {x y : List Elem} (hx : Kp x) (hy : Kp y) (ids : List Int) (hr : RisI ids) (hm : ∀ n, n ∈ ids ↔ hasN n x = true ∨ hasN n y = true) : sumN (cntS x y) ids = (diffL x y).length := by
  have hsx := kp_ris hx
  have hsy := kp_ris hy
  obtain ⟨p1, p2⟩ := ids_part hsx hsy ids hr hm
  rw [sumN_part _ (fun n => hasN n x) ids, p1, p2, sum_sets x y hsx x fun _ h => h, sum_one]
  · unfold diffL
    have a := order_count hsy (ok_rules y x hy.1)
    have b := order_count hsx (ok_rules x y hx.1)
    simp only [List.length_append, List.length_map, List.length_reverse]
    omega
  · intro n hn
    obtain ⟨e, he, rfl⟩ := List.mem_map.1 hn
    have := (List.mem_filter.1 he).2
    unfold cntS
    rw [if_pos (.inl (by simpa using this))]

theorem counts_l16 (x y : List Elem) (p q : Nat) (hp : p < x.length) (hq : q < y.length) (e i : Int) (ol : List Edit) (ids : List Int) (K0 : (List Elem) → (List Elem) → Int → Int → Int → (List Edit) → (List Int) → Prop) : ∀ (k f n : Nat) (m : Nat), f + k = 9 → k < n → m + k ≤ 100000 →
    K0 x y e ((m + ((List.range' f k).flatMap (setF x[p] y[q])).length : Nat) : Int) i ol ids → law13.DiffCounts.l16 K0 n x y e (m : Int) i (p : Int) (q : Int) (f : Int) ol ids
  | 0, f, n, m, hf, hn, hm, h => by
    obtain ⟨n, rfl⟩ : ∃ m, n = m + 1 := ⟨n - 1, by omega⟩
    simp only [law13.DiffCounts.l16]
    rw [decide_eq_false (by omega), br_false]
    simpa using h
  | k + 1, f, n, m, hf, hn, hm, h => by
    obtain ⟨n, rfl⟩ : ∃ m, n = m + 1 := ⟨n - 1, by omega⟩
    simp only [law13.DiffCounts.l16, law13.DiffCounts.j163]
    rw [decide_eq_true (by omega), br_true, ix_nat _ _ _ hp, ix_nat _ _ _ hq, wrap_succ f (by omega)]
    refine ⟨⟨by omega, by omega⟩, Value_law _ _ _ ⟨⟨by omega, by omega⟩, Value_law _ _ _ ?_⟩⟩
    rw [eqT_val]
    rw [List.range'_succ, List.flatMap_cons] at h
    unfold setF at h
    by_cases hv : valL x[p] (f : Int) = valL y[q] (f : Int)
    · rw [decide_eq_true hv, Bool.not_true, br_false]
      rw [if_pos hv, List.nil_append] at h
      exact counts_l16 x y p q hp hq e i ol ids K0 k (f + 1) n m (by omega) (by omega) (by omega) h
    · rw [decide_eq_false hv, Bool.not_false, br_true, wrap_succ m (by omega)]
      rw [if_neg hv, List.length_append, ← Nat.add_assoc] at h
      exact counts_l16 x y p q hp hq e i ol ids K0 k (f + 1) n (m + 1) (by omega) (by omega) (by omega) h
theorem counts_l9 (x y : List Elem) (hx : x.length ≤ 1000) (hy : y.length ≤ 1000) (e : Int) (ol : List Edit) (ids : List Int) (hi : ids.length ≤ 1000) (K0 : Int → Int → (List Edit) → Prop) : ∀ (k i n m : Nat), i + k = ids.length → k < n → m + 9 * k ≤ 90000 →
    K0 e ((m + sumN (cntS x y) (ids.drop i) : Nat) : Int) ol → law13.DiffCounts.l9 K0 n x y e (m : Int) (i : Int) ol ids
  | 0, i, n, m, hk, hn, hm, h => by
    obtain ⟨n, rfl⟩ : ∃ m, n = m + 1 := ⟨n - 1, by omega⟩
    simp only [law13.DiffCounts.l9]
    rw [lt_false (by omega), br_false]
    rw [List.drop_eq_nil_of_le (by omega)] at h
    exact h
  | k + 1, i, n, m, hk, hn, hm, h => by
    obtain ⟨n, rfl⟩ : ∃ m, n = m + 1 := ⟨n - 1, by omega⟩
    have hlt : i < ids.length := by omega
    have hc9 : cntS x y ids[i] ≤ 9 := by
      unfold cntS; split
      · omega
      · exact setsS_len _ _
    rw [List.drop_eq_getElem_cons hlt] at h
    have h : K0 e ((m + (cntS x y ids[i] + sumN (cntS x y) (ids.drop (i + 1))) : Nat) : Int) ol := h
    rw [← Nat.add_assoc] at h
    simp only [law13.DiffCounts.l9]
    rw [lt_true hlt, br_true, Int.toNat_natCast, ixN_get _ _ _ hlt]
    refine ⟨⟨by omega, by omega⟩, hlt, rFind_law _ _ _ (by omega) ⟨⟨by omega, by omega⟩, hlt, rFind_law _ _ _ (by omega) ?_⟩⟩
    have miss : ∀ a b : Int, (hasN ids[i] x = false ∨ hasN ids[i] y = false) → law13.DiffCounts.j28 (fun x5_57 y6_58 e8_59 n9_60 i11_61 ol7_62 oids10_63 => law13.DiffCounts.l9 K0 n x5_57 y6_58 e8_59 n9_60 i11_61 ol7_62 oids10_63) x y e (m : Int) (i : Int) a b true ol ids := fun a b hmiss => by
      unfold law13.DiffCounts.j28 law13.DiffCounts.j295
      rw [br_true, wrap_succ m (by omega), wrap_succ i (by omega)]
      have : cntS x y ids[i] = 1 := by unfold cntS; rw [if_pos hmiss]
      rw [this] at h
      exact counts_l9 x y hx hy e ol ids hi K0 k (i + 1) n (m + 1) (by omega) (by omega) (by omega) h
    rcases fidx_spec ids[i] x 0 with ⟨g1, g2⟩ | ⟨p, hp, g1, g2, g3, g4⟩
    · rw [g1, show decide ((-1 : Int) < 0) = true from rfl, br_true]
      exact miss _ _ (.inl (by simp [hasN, g2]))
    · rw [g1, show decide (((0 + p : Nat) : Int) < 0) = false from by simp, br_false]
      rcases fidx_spec ids[i] y 0 with ⟨k1, k2⟩ | ⟨q, hq, k1, k2, k3, k4⟩
      · rw [k1, show decide ((-1 : Int) < 0) = true from rfl]
        exact miss _ _ (.inr (by simp [hasN, k2]))
      · rw [k1, show decide (((0 + q : Nat) : Int) < 0) = false from by simp]
        unfold law13.DiffCounts.j28 law13.DiffCounts.j295
        rw [br_false, show ((0 + p : Nat) : Int) = (p : Int) from by omega, show ((0 + q : Nat) : Int) = (q : Int) from by omega]
        have hcnt : cntS x y ids[i] = ((List.range' 0 9).flatMap (setF x[p] y[q])).length := by
          unfold cntS; rw [if_neg (by simp [g4, k4]), g2, k2]; rfl
        refine ⟨10, counts_l16 x y p q hp hq e _ ol ids _ 9 0 _ m (by omega) (by omega) (by omega) ?_⟩
        rw [← hcnt, wrap_succ i (by omega)]
        exact counts_l9 x y hx hy e ol ids hi K0 k (i + 1) n _ (by omega) (by omega) (by omega) h
theorem two_nums (x y : List Elem) (hx : x.length ≤ 40) (hy : y.length ≤ 40) : (([x, y] : List (List Elem)).flatMap id).length ≤ 80 := by simp; omega
theorem diffCounts (by_ : Nat → Nat) (a b : List Act) (w0 : Wf by_ (.sl 70 tAct) a) (w1 : Wf by_ (.sl 70 tAct) b) (K : Bool → Prop) (h : K true) : law13.DiffCounts a b K := by
  have gate : ∀ t : Bool, (t = false → a.length ≤ 24 ∧ b.length ≤ 24) → law13.DiffCounts.j4 K a b t := fun t ht => by
    unfold law13.DiffCounts.j4
    cases t with
    | true => rw [br_true]; exact awake13_law _ h
    | false =>
      rw [br_false]
      obtain ⟨h1, h2⟩ := ht rfl
      refine make_law _ _ (by omega) fun x hx hxl => make_law _ _ (by omega) fun y hy hyl => ?_
      refine diff_law _ _ _ (by omega) (by omega) ?_
      rw [diff_ok hx hy]
      have h2n := two_nums x y (kp_len hx) (kp_len hy)
      refine rIDs_law _ _ (by simp) (by omega) ?_
      have hlen := sortI_len ((([x, y] : List (List Elem)).flatMap id).map (·.1))
      rw [List.length_map] at hlen
      have hcount := diff_counts hx hy _ (sortI_ris ((([x, y] : List (List Elem)).flatMap id).map (·.1))) (fun n => by
        rw [ids_mem]
        constructor
        · rintro ⟨c, hc, hn⟩
          simp at hc
          rcases hc with rfl | rfl
          · exact .inl hn
          · exact .inr hn
        · rintro (hn | hn)
          · exact ⟨x, by simp, hn⟩
          · exact ⟨y, by simp, hn⟩)
      generalize hI : sortI ((([x, y] : List (List Elem)).flatMap id).map (·.1)) = ids at hlen hcount ⊢
      refine ⟨ids.length + 1, counts_l9 x y (by omega) (by omega) _ _ ids (by omega) _ ids.length 0 _ 0 (by omega) (by omega) (by omega) ?_⟩
      rw [List.drop_zero, hcount, Nat.zero_add]
      rw [show (((diffL x y, (0 : Int)).2) == (0 : Int)) = true from rfl, br_true]
      simpa using h
  unfold law13.DiffCounts
  refine awake13_law _ ?_
  rw [Bool.not_true, br_false]
  by_cases h1 : a.length > 24
  · rw [decide_eq_true (by omega), br_true]
    exact gate true fun h => by cases h
  rw [decide_eq_false (by omega), br_false]
  refine gate _ fun hb => ⟨by omega, ?_⟩
  have := of_decide_eq_false hb
  omega
end Go.Iw
