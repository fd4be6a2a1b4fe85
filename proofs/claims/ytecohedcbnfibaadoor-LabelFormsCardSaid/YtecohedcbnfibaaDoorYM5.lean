/- Plain laws: what a journal tells, whatever of it was lost. -/
import Derived.Test.YtecohedcbnfibaaDoorYM4
namespace Go.Iw
open Go.Iv
set_option linter.unusedVariables false
set_option linter.unusedSimpArgs false
set_option maxRecDepth 100000

/-! What is kept, place by place. -/
theorem set_getD {α : Type} (s : List α) (i q : Nat) (x z : α) : (s.set i x).getD q z = if i = q ∧ q < s.length then x else s.getD q z := by
  rw [List.getD_eq_getElem?_getD, List.getD_eq_getElem?_getD, List.getElem?_set]
  by_cases h : i = q
  · subst h
    by_cases h2 : i < s.length
    · simp [h2]
    · simp [h2, List.getElem?_eq_none (Nat.le_of_not_lt h2)]
  · simp [h]
theorem keep_miss {f : Nat → Bool} {q : Nat} : ∀ {A : List write} {i : Nat} {s : List (List Int)}, (∀ (k : Nat) (h : k < A.length), f (i + k) = true → A[k].1.toNat ≠ q) → (keepB f i A s).getD q [] = s.getD q []
  | [], _, _, _ => rfl
  | x :: r, i, s, h => by
    have h0 := h 0 (by simp)
    rw [keepB, keep_miss (fun k hk hf => by
      have := h (k + 1) (by simpa using hk) (by rw [show i + (k + 1) = i + 1 + k from by omega]; exact hf)
      simpa using this)]
    cases hf : f i with
    | false => rfl
    | true =>
      rw [cond_true, set_getD, if_neg]
      intro e
      exact h0 (by simpa using hf) (by simpa using e.1)
theorem keep_hit {f : Nat → Bool} {q : Nat} : ∀ {A : List write} {i : Nat} {s : List (List Int)} {k : Nat} (hk : k < A.length), f (i + k) = true → A[k].1.toNat = q → (∀ (k' : Nat) (h : k' < A.length), k < k' → A[k'].1.toNat ≠ q) → q < s.length → (keepB f i A s).getD q [] = A[k].2.1
  | x :: r, i, s, 0, hk, hf, hq, hu, hl => by
    rw [keepB, keep_miss (fun k' hk' _ => by
      have := hu (k' + 1) (by simpa using hk') (by omega)
      simpa using this)]
    have hf' : f i = true := by simpa using hf
    have hq' : x.1.toNat = q := by simpa using hq
    rw [hf', cond_true, set_getD, if_pos ⟨hq', hl⟩]
    rfl
  | x :: r, i, s, k + 1, hk, hf, hq, hu, hl => by
    rw [keepB]
    have hk' : k < r.length := by simpa using hk
    have e : (x :: r)[k + 1] = r[k] := by simp
    rw [e]
    refine keep_hit hk' (by rw [show i + 1 + k = i + (k + 1) from by omega]; exact hf) (by simpa using hq) (fun k' h hlt => ?_) ?_
    · have := hu (k' + 1) (by simpa using h) (by omega)
      simpa using this
    · cases f i
      · exact hl
      · rw [cond_true, List.length_set]; exact hl
theorem ext_drop {s s' : List (List Int)} (n : Nat) (hl : s.length = s'.length) (h : ∀ q, n ≤ q → q < s.length → s.getD q [] = s'.getD q []) : s.drop n = s'.drop n := by
  apply List.ext_getElem?
  intro i
  rw [List.getElem?_drop, List.getElem?_drop]
  by_cases hi : n + i < s.length
  · have := h (n + i) (by omega) hi
    rw [List.getD_eq_getElem?_getD, List.getD_eq_getElem?_getD, List.getElem?_eq_getElem hi, List.getElem?_eq_getElem (by omega)] at this
    rw [List.getElem?_eq_getElem hi, List.getElem?_eq_getElem (by omega)]
    simpa using this
  · rw [List.getElem?_eq_none (by omega), List.getElem?_eq_none (by omega)]
theorem ext_getD {s s' : List (List Int)} (hl : s.length = s'.length) (h : ∀ q, q < s.length → s.getD q [] = s'.getD q []) : s = s' := by
  have := ext_drop 0 hl fun q _ hq => h q hq
  simpa using this
theorem drop_getD {s : List (List Int)} {n q : Nat} : (s.drop n).getD q [] = s.getD (n + q) [] := by
  rw [List.getD_eq_getElem?_getD, List.getD_eq_getElem?_getD, List.getElem?_drop]

/-! Pages, put in place. -/
def apl (l : List Page) (c : List (List Int)) : List (List Int) := l.foldl (fun c x => c.set x.1.toNat (padS x.2.1)) c
def lastP (l : List Page) (q : Nat) (o : List Int) : List Int := l.foldl (fun o x => if x.1.toNat = q then padS x.2.1 else o) o
theorem apl_len : ∀ (l : List Page) (c : List (List Int)), (apl l c).length = c.length
  | [], _ => rfl
  | x :: r, c => by
    show (apl r (c.set _ _)).length = _
    rw [apl_len r, List.length_set]
theorem apl_get : ∀ (l : List Page) (c : List (List Int)) (q : Nat), q < c.length → (apl l c).getD q [] = lastP l q (c.getD q [])
  | [], _, _, _ => rfl
  | x :: r, c, q, h => by
    show (apl r (c.set _ _)).getD q [] = lastP r q (if x.1.toNat = q then padS x.2.1 else c.getD q [])
    rw [apl_get r _ q (by rw [List.length_set]; exact h), set_getD]
    by_cases e : x.1.toNat = q
    · rw [if_pos ⟨e, h⟩, if_pos e]
    · rw [if_neg (fun e2 => e e2.1), if_neg e]
theorem lastP_any {l : List Page} {q : Nat} (h : ∃ x ∈ l, x.1.toNat = q) : ∀ (o o' : List Int), lastP l q o = lastP l q o' := by
  induction l with
  | nil => obtain ⟨x, hx, _⟩ := h; cases hx
  | cons y r ih =>
    intro o o'
    show lastP r q (if y.1.toNat = q then _ else o) = lastP r q (if y.1.toNat = q then _ else o')
    by_cases e : y.1.toNat = q
    · rw [if_pos e, if_pos e]
    · rw [if_neg e, if_neg e]
      obtain ⟨x, hx, hq⟩ := h
      rcases List.mem_cons.1 hx with rfl | hx
      · exact (e hq).elim
      · exact ih ⟨x, hx, hq⟩ o o'
theorem lastP_none {l : List Page} {q : Nat} (h : ∀ x ∈ l, x.1.toNat ≠ q) (o : List Int) : lastP l q o = o := by
  induction l with
  | nil => rfl
  | cons y r ih =>
    show lastP r q (if y.1.toNat = q then _ else o) = o
    rw [if_neg (h y (List.mem_cons_self ..))]
    exact ih fun x hx => h x (List.mem_cons_of_mem _ hx)
def padP (l : List Page) : List Page := l.map fun x => (x.1, (padS x.2.1, ()))
theorem apl_pad (l : List Page) : ∀ c, apl (padP l) c = apl l c := by
  induction l with
  | nil => intro c; rfl
  | cons x r ih =>
    intro c
    show apl (padP r) (c.set x.1.toNat (padS (padS x.2.1))) = apl r (c.set x.1.toNat (padS x.2.1))
    rw [padS_pad, ih]
theorem apl_some {l : List Page} {c c' : List (List Int)} (hl : c'.length = c.length) (h : ∀ q, q < c.length → (∀ x ∈ l, x.1.toNat ≠ q) → c'.getD q [] = c.getD q []) : apl l c' = apl l c := by
  refine ext_getD (by rw [apl_len, apl_len, hl]) fun q hq => ?_
  rw [apl_len, hl] at hq
  rw [apl_get _ _ _ (by rw [hl]; exact hq), apl_get _ _ _ hq]
  by_cases e : ∃ x ∈ l, x.1.toNat = q
  · exact lastP_any e _ _
  · have hn : ∀ x ∈ l, x.1.toNat ≠ q := fun x hx hq2 => e ⟨x, hx, hq2⟩
    rw [lastP_none hn, lastP_none hn]
    exact h q hq hn
def cont (s : List (List Int)) : List (List Int) := apl (readJ s) (s.drop 49)
theorem wsP_wf {l : List Page} (hb : ∀ x ∈ l, Byt x.2.1) : WfW (wsP l) := fun y hy => by
  unfold wsP at hy
  obtain ⟨x, hx, rfl⟩ := List.mem_map.1 hy
  exact ⟨padS_len _, padS_byt (hb x hx)⟩
theorem wsP_get (l : List Page) (k : Nat) (h : k < (wsP l).length) : (wsP l)[k] = ((49 : Int) + (l[k]'(by rw [wsP_len] at h; exact h)).1, (padS (l[k]'(by rw [wsP_len] at h; exact h)).2.1, ())) := by simp [wsP]
theorem keep_wsP_drop : ∀ (l : List Page) (i : Nat) (s : List (List Int)), (∀ x ∈ l, 0 ≤ x.1) → (keepB (fun _ => true) i (wsP l) s).drop 49 = apl l (s.drop 49)
  | [], _, _, _ => rfl
  | x :: r, i, s, h => by
    have hx := h x (List.mem_cons_self ..)
    show (keepB (fun _ => true) (i + 1) (wsP r) (s.set (((49 : Int) + x.1).toNat) (padS x.2.1))).drop 49 = apl r ((s.drop 49).set x.1.toNat (padS x.2.1))
    rw [keep_wsP_drop r (i + 1) _ fun y hy => h y (List.mem_cons_of_mem _ hy)]
    have e : ((49 : Int) + x.1).toNat = 49 + x.1.toNat := by omega
    rw [e]
    congr 1
    rw [List.drop_set]
    rw [if_neg (by omega)]
    congr 1
    omega
theorem keep_wsP_head {f : Nat → Bool} {l : List Page} (h : ∀ x ∈ l, 0 ≤ x.1) {k i : Nat} {s : List (List Int)} {q : Nat} (hq : q < 49) : (keepB f i ((wsP l).take k) s).getD q [] = s.getD q [] := by
  refine keep_miss fun m hm _ => ?_
  rw [List.getElem_take, wsP_get]
  have hm' : m < l.length := by rw [List.length_take, wsP_len] at hm; omega
  have := h l[m] (List.getElem_mem hm')
  show ((49 : Int) + _).toNat ≠ q
  omega
theorem readJ_congr {s s' : List (List Int)} (hwf : WfS s) (hs : 50 ≤ s.length) (h : ∀ q, q < 49 → s'.getD q [] = s.getD q []) : readJ s' = readJ s := by
  unfold readJ
  rw [h 0 (by decide)]
  have w0 := wf_getD hwf (i := 0) (by omega)
  have hn4 := numS_range (w0.2.drop 4) (by rw [List.length_drop]; omega)
  split
  · rfl
  · rename_i hc
    have hn : (numS ((s.getD 0 []).drop 4)).toNat ≤ 24 := by omega
    have e1 : (List.range (numS ((s.getD 0 []).drop 4)).toNat).all (okAt s' (numS (s.getD 0 []))) = (List.range (numS ((s.getD 0 []).drop 4)).toNat).all (okAt s (numS (s.getD 0 []))) := by
      have : ∀ i ∈ List.range (numS ((s.getD 0 []).drop 4)).toNat, okAt s' (numS (s.getD 0 [])) i = okAt s (numS (s.getD 0 [])) i := fun i hi => by
        have := List.mem_range.1 hi
        unfold okAt
        rw [h _ (by omega), h _ (by omega)]
      rw [Bool.eq_iff_iff, List.all_eq_true, List.all_eq_true]
      exact ⟨fun h i hi => by rw [← this i hi]; exact h i hi, fun h i hi => by rw [this i hi]; exact h i hi⟩
    have e2 : (List.range (numS ((s.getD 0 []).drop 4)).toNat).map (pgAt s') = (List.range (numS ((s.getD 0 []).drop 4)).toNat).map (pgAt s) := by
      apply List.map_congr_left
      intro i hi
      have := List.mem_range.1 hi
      unfold pgAt
      rw [h _ (by omega), h _ (by omega)]
    rw [e1, e2]
theorem pgAt_byt {s : List (List Int)} (hwf : WfS s) (hs : 50 ≤ s.length) {i : Nat} (hi : i < 24) : (pgAt s i).2.1.length = 64 ∧ Byt (pgAt s i).2.1 := by
  have wa := wf_getD hwf (i := 1 + 2 * i) (by omega)
  have wb := wf_getD hwf (i := 2 + 2 * i) (by omega)
  unfold pgAt
  refine ⟨?_, ((wa.2.take 40).drop 8).append ((wb.2.take 40).drop 8)⟩
  show (_ ++ _ : List Int).length = 64
  rw [List.length_append, List.length_drop, List.length_drop, List.length_take, List.length_take]; omega
theorem readJ_byt {s : List (List Int)} (hwf : WfS s) (hs : 50 ≤ s.length) : ∀ x ∈ readJ s, x.2.1.length = 64 ∧ Byt x.2.1 := fun x hx => by
  unfold readJ at hx
  have w0 := wf_getD hwf (i := 0) (by omega)
  have hn4 := numS_range (w0.2.drop 4) (by rw [List.length_drop]; omega)
  split at hx
  · cases hx
  · rename_i hc
    split at hx
    · obtain ⟨i, hi, rfl⟩ := List.mem_map.1 hx
      have := List.mem_range.1 hi
      exact pgAt_byt hwf hs (by omega)
    · cases hx

structure JI (B : Int) (s : List (List Int)) : Prop where
  wf : WfS s
  ge : 50 ≤ s.length
  le : s.length < 1000000
  num : ∀ i, i < 49 → numS (s.getD i []) < B
  pgs : Pgs s.length (readJ s)
theorem JI.cont_len {B : Int} {s : List (List Int)} (h : JI B s) : (cont s).length = s.length - 49 := by unfold cont; rw [apl_len, List.length_drop]
theorem JI.mono {B B' : Int} {s : List (List Int)} (h : JI B s) (hb : B ≤ B') : JI B' s := ⟨h.wf, h.ge, h.le, fun i hi => Int.lt_of_lt_of_le (h.num i hi) hb, h.pgs⟩
theorem JI.again {B : Int} {s : List (List Int)} (h : JI B s) (f : Nat → Bool) (k i : Nat) : JI B (keepB f i ((wsP (readJ s)).take k) s) ∧ cont (keepB f i ((wsP (readJ s)).take k) s) = cont s := by
  have h0 : ∀ x ∈ readJ s, 0 ≤ x.1 := fun x hx => (h.pgs x hx).1
  have hd : ∀ q, q < 49 → (keepB f i ((wsP (readJ s)).take k) s).getD q [] = s.getD q [] := fun q hq => keep_wsP_head h0 hq
  have hr : readJ (keepB f i ((wsP (readJ s)).take k) s) = readJ s := readJ_congr h.wf h.ge hd
  have hl : (keepB f i ((wsP (readJ s)).take k) s).length = s.length := keepB_len ..
  refine ⟨⟨h.wf.keep (fun y hy => wsP_wf (fun x hx => (readJ_byt h.wf h.ge x hx).2) y (List.mem_of_mem_take hy)), by rw [hl]; exact h.ge, by rw [hl]; exact h.le, fun q hq => by rw [hd q hq]; exact h.num q hq, by rw [hr, hl]; exact h.pgs⟩, ?_⟩
  unfold cont
  rw [hr]
  refine apl_some (by rw [List.length_drop, List.length_drop, hl]) fun q hq hn => ?_
  rw [drop_getD, drop_getD]
  refine keep_miss fun m hm _ => ?_
  rw [List.getElem_take, wsP_get]
  have hm' : m < (readJ s).length := by rw [List.length_take, wsP_len] at hm; omega
  have h1 := hn (readJ s)[m] (List.getElem_mem hm')
  have h2 := h0 (readJ s)[m] (List.getElem_mem hm')
  show ((49 : Int) + _).toNat ≠ 49 + q
  omega
theorem JI.opened {B : Int} {s : List (List Int)} (h : JI B s) : JI B (keepA (wsP (readJ s)) s) ∧ cont (keepA (wsP (readJ s)) s) = cont s ∧ (keepA (wsP (readJ s)) s).drop 49 = cont s := by
  have h1 := h.again (fun _ => true) (wsP (readJ s)).length 0
  rw [List.take_length] at h1
  exact ⟨h1.1, h1.2, keep_wsP_drop _ _ _ fun x hx => (h.pgs x hx).1⟩

/-! What is laid, and some of it lost. -/
theorem padS_app (p : List Int) (h : p.length ≤ 64) : padS p = p ++ List.replicate (64 - p.length) 0 := cpy_pad p 64 h
theorem num_pad (n : Nat) (hn : n < 4294967296) (r : List Int) (hr : r.length ≤ 60) : numS (padS (fourS (n : Int) ++ r)) = (n : Int) := by
  rw [padS_app _ (by rw [List.length_append, fourS_len]; omega), List.append_assoc]
  exact numS_four n hn _
theorem num_pad4 (a : Int) (n : Nat) (hn : n < 4294967296) (r : List Int) (hr : r.length ≤ 56) : numS ((padS (fourS a ++ (fourS (n : Int) ++ r))).drop 4) = (n : Int) := by
  rw [padS_app _ (by rw [List.length_append, List.length_append, fourS_len, fourS_len]; omega), List.append_assoc, List.append_assoc]
  have : (fourS a ++ (fourS (n : Int) ++ (r ++ List.replicate (64 - (fourS a ++ (fourS (n : Int) ++ r)).length) 0))).drop 4 = fourS (n : Int) ++ (r ++ List.replicate (64 - (fourS a ++ (fourS (n : Int) ++ r)).length) 0) := rfl
  rw [this]
  exact numS_four n hn _
theorem half_pad (a b : Int) (r : List Int) (hr : r.length = 32) : ((padS (fourS a ++ (fourS b ++ r))).take 40).drop 8 = r := by
  have hl : (fourS a ++ (fourS b ++ r)).length = 40 := by rw [List.length_append, List.length_append, fourS_len, fourS_len]; omega
  rw [padS_app _ (by omega), List.take_append_of_le_length (by omega), List.take_of_length_le (by omega)]
  rfl

section
variable {nx : Nat} {l : List Page} {s : List (List Int)}
theorem beq0 {q : Nat} (h : q ≠ 0) : Nat.beq q 0 = false := by
  cases q with
  | zero => exact (h rfl).elim
  | succ n => rfl
def laid (l : List Page) (K : Nat) (f : Nat → Bool) (q : Nat) : Bool := bif Nat.beq q 0 then (Nat.blt (2 * l.length) K && f (2 * l.length)) else (Nat.blt (q - 1) (min K (2 * l.length)) && f (q - 1))
theorem layE_at (nx : Int) (l : List Page) (k : Nat) (hk : k < 2 * l.length + 1) : (layE nx l k).1.toNat = if k = 2 * l.length then 0 else 1 + k := by
  unfold layE
  split
  · rfl
  · show (((1 + k : Nat) : Int)).toNat = _; omega
theorem lay_hit0 (hl : l.length ≤ 24) (hs : 50 ≤ s.length) {f : Nat → Bool} {K : Nat} (h : laid l K f 0 = true) : (keepB f 0 ((layA nx l).take K) s).getD 0 [] = padS (fourS (nx : Int) ++ fourS ((l.length : Nat) : Int)) := by
  have h : (Nat.blt (2 * l.length) K && f (2 * l.length)) = true := h
  rw [Bool.and_eq_true, Nat.blt_eq] at h
  have hk : 2 * l.length < ((layA nx l).take K).length := by rw [List.length_take, layA_len]; omega
  have hA : ∀ (k : Nat) (hk : k < ((layA (nx : Int) l).take K).length), ((layA (nx : Int) l).take K)[k] = layE nx l k := fun k hk => by
    rw [List.getElem_take, layA_get]
  rw [keep_hit (k := 2 * l.length) hk (by rw [Nat.zero_add]; exact h.2) (by rw [hA, layE_at _ _ _ (by omega), if_pos rfl]) (fun k' hk' hlt => by rw [List.length_take, layA_len] at hk'; omega) (by omega), hA]
  unfold layE
  rw [if_pos rfl]
theorem lay_hit (hl : l.length ≤ 24) (hs : 50 ≤ s.length) {f : Nat → Bool} {K q : Nat} (hq0 : q ≠ 0) (h : laid l K f q = true) : (keepB f 0 ((layA nx l).take K) s).getD q [] = (layE nx l (q - 1)).2.1 ∧ q - 1 < 2 * l.length := by
  unfold laid at h
  rw [beq0 hq0, cond_false, Bool.and_eq_true, Nat.blt_eq] at h
  have hk : q - 1 < ((layA nx l).take K).length := by rw [List.length_take, layA_len]; omega
  have hA : ∀ (k : Nat) (hk : k < ((layA (nx : Int) l).take K).length), ((layA (nx : Int) l).take K)[k] = layE nx l k := fun k hk => by
    rw [List.getElem_take, layA_get]
  refine ⟨?_, by omega⟩
  rw [keep_hit (k := q - 1) hk (by rw [Nat.zero_add]; exact h.2) (by rw [hA, layE_at _ _ _ (by omega), if_neg (by omega)]; omega) (fun k' hk' hlt => by
    rw [List.length_take, layA_len] at hk'
    rw [hA, layE_at _ _ _ (by omega)]
    split <;> omega) (by omega), hA]
theorem lay_miss (hl : l.length ≤ 24) {f : Nat → Bool} {K q : Nat} (h : laid l K f q = false) : (keepB f 0 ((layA nx l).take K) s).getD q [] = s.getD q [] := by
  have hA : ∀ (k : Nat) (hk : k < ((layA (nx : Int) l).take K).length), ((layA (nx : Int) l).take K)[k] = layE nx l k := fun k hk => by
    rw [List.getElem_take, layA_get]
  refine keep_miss fun k hk hf => ?_
  rw [hA]
  rw [Nat.zero_add] at hf
  rw [List.length_take, layA_len] at hk
  rw [layE_at _ _ _ (by omega)]
  intro e
  split at e
  · rename_i hk2
    subst hk2
    subst e
    have h : (Nat.blt (2 * l.length) K && f (2 * l.length)) = false := h
    rw [hf, Bool.and_true] at h
    have : Nat.blt (2 * l.length) K = true := by rw [Nat.blt_eq]; omega
    rw [this] at h; cases h
  · unfold laid at h
    rw [beq0 (show q ≠ 0 by omega), cond_false] at h
    have e2 : q - 1 = k := by omega
    rw [e2, hf, Bool.and_true] at h
    have : Nat.blt k (min K (2 * l.length)) = true := by rw [Nat.blt_eq]; omega
    rw [this] at h; cases h
theorem laid_far (hl : l.length ≤ 24) {f : Nat → Bool} {K q : Nat} (h : 49 ≤ q) : laid l K f q = false := by
  unfold laid
  rw [beq0 (show q ≠ 0 by omega), cond_false]
  have : Nat.blt (q - 1) (min K (2 * l.length)) = false := by
    rw [Bool.eq_false_iff]; intro e; rw [Nat.blt_eq] at e; omega
  rw [this]; rfl
theorem layE_half {k : Nat} (hk : k < 2 * l.length) : ∃ r : List Int, r.length = 32 ∧ (layE (nx : Int) l k).2.1 = padS (fourS (nx : Int) ++ (fourS (l.getD (k / 2) Page.z).1 ++ r)) ∧ r = if k % 2 = 0 then (padS (l.getD (k / 2) Page.z).2.1).take 32 else (padS (l.getD (k / 2) Page.z).2.1).drop 32 := by
  refine ⟨_, ?_, ?_, rfl⟩
  · split
    · rw [List.length_take, padS_len]; rfl
    · rw [List.length_drop, padS_len]
  · unfold layE
    rw [if_neg (by omega)]
    show padS _ = _
    rw [List.append_assoc]
theorem layA_wf (hb : ∀ x ∈ l, Byt x.2.1) : WfW (layA (nx : Int) l) := fun y hy => by
  unfold layA at hy
  obtain ⟨k, hk, rfl⟩ := List.mem_map.1 hy
  rw [List.mem_range] at hk
  have hz : ∀ i, Byt (l.getD i Page.z).2.1 := fun i => by
    rw [List.getD_eq_getElem?_getD]
    cases h : l[i]? with
    | none => exact Byt.nil
    | some x => exact hb x (List.mem_of_getElem? h)
  unfold layE
  split
  · exact ⟨padS_len _, padS_byt ((fourS_byt _).append (fourS_byt _))⟩
  · refine ⟨padS_len _, padS_byt (((fourS_byt _).append (fourS_byt _)).append ?_)⟩
    split
    · exact (padS_byt (hz _)).take _
    · exact (padS_byt (hz _)).drop _
theorem lay_some (hB : JI (nx : Int) s) (hst : cont s = s.drop 49) (h1 : 1 ≤ nx) (hnx : nx < 4294967296) (hl : l.length ≤ 24) (hv : Pgs s.length l) (hb : ∀ x ∈ l, Byt x.2.1) (f : Nat → Bool) (K : Nat) :
    JI ((nx : Int) + 1) (keepB f 0 ((layA nx l).take K) s) ∧ (keepB f 0 ((layA nx l).take K) s).drop 49 = s.drop 49 ∧ (readJ (keepB f 0 ((layA nx l).take K) s) = padP l ∨ cont (keepB f 0 ((layA nx l).take K) s) = s.drop 49) ∧
      ((∀ q, q < 1 + 2 * l.length → laid l K f q = true) → readJ (keepB f 0 ((layA nx l).take K) s) = padP l) := by
  have hs := hB.ge
  have hlen : (keepB f 0 ((layA nx l).take K) s).length = s.length := keepB_len ..
  have hwf : WfS (keepB f 0 ((layA nx l).take K) s) := hB.wf.keep fun y hy => layA_wf hb y (List.mem_of_mem_take hy)
  have hdrop : (keepB f 0 ((layA nx l).take K) s).drop 49 = s.drop 49 := ext_drop 49 hlen fun q hq _ => lay_miss hl (laid_far hl hq)
  -- numbers
  have hnum : ∀ q, q < 49 → (laid l K f q = true → numS ((keepB f 0 ((layA nx l).take K) s).getD q []) = (nx : Int)) ∧ (laid l K f q = false → numS ((keepB f 0 ((layA nx l).take K) s).getD q []) = numS (s.getD q [])) := by
    intro q hq
    refine ⟨fun h => ?_, fun h => by rw [lay_miss hl h]⟩
    by_cases h0 : q = 0
    · subst h0
      rw [lay_hit0 hl hs h]
      exact num_pad nx hnx _ (by rw [fourS_len]; decide)
    · obtain ⟨e, hlt⟩ := lay_hit (nx := nx) (s := s) hl hs h0 h
      obtain ⟨r, hr, e2, _⟩ := layE_half (nx := nx) hlt
      rw [e, e2]
      exact num_pad nx hnx _ (by rw [List.length_append, fourS_len, hr]; decide)
  have hlt : ∀ q, q < 49 → numS ((keepB f 0 ((layA nx l).take K) s).getD q []) < (nx : Int) + 1 := fun q hq => by
    cases h : laid l K f q with
    | true => rw [(hnum q hq).1 h]; omega
    | false => rw [(hnum q hq).2 h]; have := hB.num q hq; omega
  have hpad : Pgs s.length (padP l) := fun x hx => by
    unfold padP at hx
    obtain ⟨y, hy, rfl⟩ := List.mem_map.1 hx
    exact ⟨(hv y hy).1, (hv y hy).2.1, by rw [padS_len]; exact Nat.le_refl _⟩
  have pgs_at : ∀ i, i < l.length → laid l K f (1 + 2 * i) = true → laid l K f (2 + 2 * i) = true → pgAt (keepB f 0 ((layA nx l).take K) s) i = (padP l).getD i Page.z := fun i hi ha hb2 => by
    obtain ⟨e1, hlt1⟩ := lay_hit (nx := nx) (s := s) hl hs (q := 1 + 2 * i) (by omega) ha
    obtain ⟨e2, hlt2⟩ := lay_hit (nx := nx) (s := s) hl hs (q := 2 + 2 * i) (by omega) hb2
    obtain ⟨r1, hr1, f1, g1⟩ := layE_half (nx := nx) hlt1
    obtain ⟨r2, hr2, f2, g2⟩ := layE_half (nx := nx) hlt2
    have d1 : (1 + 2 * i - 1) / 2 = i := by omega
    have d2 : (2 + 2 * i - 1) / 2 = i := by omega
    rw [d1] at f1 g1
    rw [d2] at f2 g2
    rw [if_pos (by omega)] at g1
    rw [if_neg (by omega)] at g2
    have hx := hv (l.getD i Page.z) (by rw [List.getD_eq_getElem?_getD, List.getElem?_eq_getElem hi]; exact List.getElem_mem hi)
    obtain ⟨n, hn⟩ := Int.eq_ofNat_of_zero_le hx.1
    have hle := hB.le
    unfold pgAt
    rw [e1, e2, f1, f2, half_pad _ _ _ hr1, half_pad _ _ _ hr2, hn, num_pad4 _ n (by omega) _ (by omega), g1, g2, List.take_append_drop]
    have e : (padP l).getD i Page.z = ((l.getD i Page.z).1, (padS (l.getD i Page.z).2.1, ())) := by
      unfold padP
      rw [List.getD_eq_getElem?_getD, List.getD_eq_getElem?_getD, List.getElem?_map, List.getElem?_eq_getElem hi]
      rfl
    rw [e, hn]
  have whole : laid l K f 0 = true → (∀ i, i < l.length → laid l K f (1 + 2 * i) = true ∧ laid l K f (2 + 2 * i) = true) → readJ (keepB f 0 ((layA nx l).take K) s) = padP l := fun h0 hall => by
    have e0 := lay_hit0 (nx := nx) (s := s) hl hs h0
    have n0 : numS ((keepB f 0 ((layA nx l).take K) s).getD 0 []) = (nx : Int) := (hnum 0 (by decide)).1 h0
    have n4 : numS (((keepB f 0 ((layA nx l).take K) s).getD 0 []).drop 4) = ((l.length : Nat) : Int) := by
      rw [e0]
      have := num_pad4 (nx : Int) l.length (by omega) [] (by decide)
      rw [List.append_nil] at this
      exact this
    unfold readJ
    rw [n0, n4, if_neg (by omega), Int.toNat_natCast, if_pos]
    · apply List.ext_getElem?
      intro i
      rw [List.getElem?_map]
      by_cases hi : i < l.length
      · rw [List.getElem?_range hi]
        have := pgs_at i hi (hall i hi).1 (hall i hi).2
        have hi2 : i < (padP l).length := by unfold padP; rw [List.length_map]; exact hi
        rw [List.getD_eq_getElem?_getD, List.getElem?_eq_getElem hi2] at this
        rw [List.getElem?_eq_getElem hi2]
        show some (pgAt _ i) = _
        rw [this]; rfl
      · have e1 : (List.range l.length)[i]? = none := List.getElem?_eq_none (by rw [List.length_range]; omega)
        have e2 : (padP l)[i]? = none := List.getElem?_eq_none (by unfold padP; rw [List.length_map]; omega)
        rw [e1, e2]; rfl
    · rw [List.all_eq_true]
      intro i hi
      have hi := List.mem_range.1 hi
      unfold okAt
      rw [(hnum (1 + 2 * i) (by omega)).1 (hall i hi).1, (hnum (2 + 2 * i) (by omega)).1 (hall i hi).2]
      simp
  have cases3 : readJ (keepB f 0 ((layA nx l).take K) s) = padP l ∨ readJ (keepB f 0 ((layA nx l).take K) s) = [] ∨ readJ (keepB f 0 ((layA nx l).take K) s) = readJ s := by
    cases h0 : laid l K f 0 with
    | true =>
      by_cases hall : ∀ i, i < l.length → laid l K f (1 + 2 * i) = true ∧ laid l K f (2 + 2 * i) = true
      · exact .inl (whole h0 hall)
      · right; left
        have e0 := lay_hit0 (nx := nx) (s := s) hl hs h0
        have n0 : numS ((keepB f 0 ((layA nx l).take K) s).getD 0 []) = (nx : Int) := (hnum 0 (by decide)).1 h0
        have n4 : numS (((keepB f 0 ((layA nx l).take K) s).getD 0 []).drop 4) = ((l.length : Nat) : Int) := by
          rw [e0]
          have := num_pad4 (nx : Int) l.length (by omega) [] (by decide)
          rw [List.append_nil] at this
          exact this
        unfold readJ
        rw [n0, n4, if_neg (by omega), Int.toNat_natCast, if_neg]
        intro hok
        refine hall fun i hi => ?_
        have h1 := List.all_eq_true.1 hok i (List.mem_range.2 hi)
        unfold okAt at h1
        rw [Bool.and_eq_true, beq_iff_eq, beq_iff_eq] at h1
        have sure : ∀ q, q < 49 → numS ((keepB f 0 ((layA nx l).take K) s).getD q []) = (nx : Int) → laid l K f q = true := fun q hq e => by
          cases hc : laid l K f q with
          | true => rfl
          | false =>
            rw [(hnum q hq).2 hc] at e
            have := hB.num q hq
            omega
        exact ⟨sure _ (by omega) h1.1, sure _ (by omega) h1.2⟩
    | false =>
      right
      have e0 : (keepB f 0 ((layA nx l).take K) s).getD 0 [] = s.getD 0 [] := lay_miss hl h0
      have w0 := wf_getD hB.wf (i := 0) (by omega)
      have hn4 := numS_range (w0.2.drop 4) (by rw [List.length_drop]; omega)
      by_cases hc : 24 < numS ((s.getD 0 []).drop 4) ∨ numS (s.getD 0 []) = 0
      · left
        unfold readJ
        rw [e0, if_pos hc]
      · by_cases hok : (List.range (numS ((s.getD 0 []).drop 4)).toNat).all (okAt (keepB f 0 ((layA nx l).take K) s) (numS (s.getD 0 []))) = true
        · right
          have same : ∀ i, i < (numS ((s.getD 0 []).drop 4)).toNat → laid l K f (1 + 2 * i) = false ∧ laid l K f (2 + 2 * i) = false := fun i hi => by
            have h1 := List.all_eq_true.1 hok i (List.mem_range.2 hi)
            unfold okAt at h1
            rw [Bool.and_eq_true, beq_iff_eq, beq_iff_eq] at h1
            have hz := hB.num 0 (by decide)
            have sure : ∀ q, q < 49 → numS ((keepB f 0 ((layA nx l).take K) s).getD q []) = numS (s.getD 0 []) → laid l K f q = false := fun q hq e => by
              cases hc : laid l K f q with
              | false => rfl
              | true => rw [(hnum q hq).1 hc] at e; omega
            exact ⟨sure _ (by omega) h1.1, sure _ (by omega) h1.2⟩
          have eok : (List.range (numS ((s.getD 0 []).drop 4)).toNat).all (okAt s (numS (s.getD 0 []))) = true := by
            rw [List.all_eq_true] at hok ⊢
            intro i hi
            have h1 := hok i hi
            obtain ⟨a, b⟩ := same i (List.mem_range.1 hi)
            unfold okAt at h1 ⊢
            rw [lay_miss hl a, lay_miss hl b] at h1
            exact h1
          unfold readJ
          rw [e0, if_neg hc, if_neg hc, hok, eok, if_pos rfl, if_pos rfl]
          apply List.map_congr_left
          intro i hi
          obtain ⟨a, b⟩ := same i (List.mem_range.1 hi)
          unfold pgAt
          rw [lay_miss hl a, lay_miss hl b]
        · left
          unfold readJ
          rw [e0, if_neg hc, if_neg hok]
  refine ⟨⟨hwf, by rw [hlen]; exact hs, by rw [hlen]; exact hB.le, hlt, ?_⟩, hdrop, ?_, fun h => whole (h 0 (by omega)) fun i hi => ⟨h _ (by omega), h _ (by omega)⟩⟩
  · rw [hlen]
    rcases cases3 with e | e | e
    · rw [e]; exact hpad
    · rw [e]; exact fun x hx => by cases hx
    · rw [e]; exact hB.pgs
  · rcases cases3 with e | e | e
    · exact .inl e
    · right; unfold cont; rw [e, hdrop]; rfl
    · right; unfold cont; rw [e, hdrop]; exact hst
theorem lay_all (hB : JI (nx : Int) s) (hst : cont s = s.drop 49) (h1 : 1 ≤ nx) (hnx : nx < 4294967296) (hl : l.length ≤ 24) (hv : Pgs s.length l) (hb : ∀ x ∈ l, Byt x.2.1) :
    JI ((nx : Int) + 1) (keepA (layA nx l) s) ∧ (keepA (layA nx l) s).drop 49 = s.drop 49 ∧ readJ (keepA (layA nx l) s) = padP l := by
  have h := lay_some hB hst h1 hnx hl hv hb (fun _ => true) (layA (nx : Int) l).length
  rw [List.take_length] at h
  refine ⟨h.1, h.2.1, h.2.2.2 fun q hq => ?_⟩
  unfold laid
  rw [layA_len]
  cases e : Nat.beq q 0 with
  | true =>
    rw [cond_true, Bool.and_true, Nat.blt_eq]; omega
  | false =>
    have : q ≠ 0 := by intro h; subst h; cases e
    rw [cond_false, Bool.and_true, Nat.blt_eq]; omega
theorem wsP_padP : ∀ (l : List Page), wsP (padP l) = wsP l
  | [] => rfl
  | x :: r => by
    show ((49 : Int) + x.1, (padS (padS x.2.1), ())) :: wsP (padP r) = ((49 : Int) + x.1, (padS x.2.1, ())) :: wsP r
    rw [padS_pad, wsP_padP r]
theorem write_lay (hB : JI (nx : Int) s) (hst : cont s = s.drop 49) (h1 : 1 ≤ nx) (hnx : nx < 4294967296) (hl : l.length ≤ 24) (hv : Pgs s.length l) (hb : ∀ x ∈ l, Byt x.2.1) (f : Nat → Bool) (K : Nat) :
    JI ((nx : Int) + 1) (keepB f 0 ((layA nx l).take K) s) ∧ (cont (keepB f 0 ((layA nx l).take K) s) = s.drop 49 ∨ cont (keepB f 0 ((layA nx l).take K) s) = apl l (s.drop 49)) := by
  obtain ⟨a, b, c, _⟩ := lay_some hB hst h1 hnx hl hv hb f K
  refine ⟨a, c.elim (fun e => .inr ?_) .inl⟩
  unfold cont
  rw [e, b, apl_pad]
theorem write_apply (hB : JI (nx : Int) s) (hst : cont s = s.drop 49) (h1 : 1 ≤ nx) (hnx : nx < 4294967296) (hl : l.length ≤ 24) (hv : Pgs s.length l) (hb : ∀ x ∈ l, Byt x.2.1) (f : Nat → Bool) (K i : Nat) :
    JI ((nx : Int) + 1) (keepB f i ((wsP l).take K) (keepA (layA nx l) s)) ∧ cont (keepB f i ((wsP l).take K) (keepA (layA nx l) s)) = apl l (s.drop 49) := by
  obtain ⟨a, b, c⟩ := lay_all hB hst h1 hnx hl hv hb
  have h := a.again f K i
  rw [c, wsP_padP] at h
  refine ⟨h.1, ?_⟩
  rw [h.2]
  unfold cont
  rw [c, b, apl_pad]
theorem write_done (hB : JI (nx : Int) s) (hst : cont s = s.drop 49) (h1 : 1 ≤ nx) (hnx : nx < 4294967296) (hl : l.length ≤ 24) (hv : Pgs s.length l) (hb : ∀ x ∈ l, Byt x.2.1) :
    JI ((nx : Int) + 1) (keepA (wsP l) (keepA (layA nx l) s)) ∧ (keepA (wsP l) (keepA (layA nx l) s)).drop 49 = apl l (s.drop 49) ∧ cont (keepA (wsP l) (keepA (layA nx l) s)) = apl l (s.drop 49) := by
  obtain ⟨a, b, c⟩ := lay_all hB hst h1 hnx hl hv hb
  have h := write_apply hB hst h1 hnx hl hv hb (fun _ => true) (wsP l).length 0
  rw [List.take_length] at h
  refine ⟨h.1, ?_, h.2⟩
  rw [keep_wsP_drop _ _ _ fun x hx => (hv x hx).1, b]
end
end Go.Iw
