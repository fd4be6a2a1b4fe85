/- Plain laws: the order in which elements may be added. -/
import Derived.Test.YtdlhckmdllfamaaCQ6
namespace Go.Iw
open Go.Iv
set_option linter.unusedVariables false
set_option linter.unusedSimpArgs false

/-- A number is there by now. -/
def nowS (w out : List Elem) (n : Int) : Bool := hasN n w || hasN n out
def stepO (w out : List Elem) (e : Elem) : List Elem := if nowS w out e.1 = true then out else if (e.2.2.1 == 0 || nowS w out e.2.2.1) = true then out ++ [e] else out
def passO (w c out : List Elem) : List Elem := c.foldl (stepO w) out
def iterO (w c : List Elem) : Nat → List Elem → List Elem
  | 0, out => out
  | k + 1, out => iterO w c k (passO w c out)
def leftO (w c out : List Elem) : Nat := (c.filter fun e => !(nowS w out e.1)).length
def orderS (c w : List Elem) : List Elem := iterO w c (c.length + 1) []
def okO (c w : List Elem) : Bool := decide (leftO w c (orderS c w) = 0)

theorem hasN_append (n : Int) (a b : List Elem) : hasN n (a ++ b) = (hasN n a || hasN n b) := by
  rw [Bool.eq_iff_iff, Bool.or_eq_true, hasN_iff, hasN_iff, hasN_iff]
  constructor
  · rintro ⟨x, hx, e⟩
    rcases List.mem_append.1 hx with hx | hx
    · exact .inl ⟨x, hx, e⟩
    · exact .inr ⟨x, hx, e⟩
  · rintro (⟨x, hx, e⟩ | ⟨x, hx, e⟩)
    · exact ⟨x, List.mem_append_left _ hx, e⟩
    · exact ⟨x, List.mem_append_right _ hx, e⟩
theorem hasN_one (n : Int) (e : Elem) : hasN n [e] = (e.1 == n) := by
  rw [Bool.eq_iff_iff, hasN_iff]
  constructor
  · rintro ⟨x, hx, h⟩; simp at hx; subst hx; simpa using h
  · intro h; exact ⟨e, by simp, by simpa using h⟩
theorem nowS_snoc (w out : List Elem) (e : Elem) (n : Int) : nowS w (out ++ [e]) n = (nowS w out n || e.1 == n) := by
  unfold nowS
  rw [hasN_append, hasN_one, Bool.or_assoc]
theorem filter_len_mono {p q : Elem → Bool} : ∀ (c : List Elem), (∀ x : Elem, x ∈ c → q x = true → p x = true) → (c.filter q).length ≤ (c.filter p).length
  | [], _ => by simp
  | x :: c, h => by
    have ih := filter_len_mono c fun y hy => h y (by simp [hy])
    have hx := h x (by simp)
    simp only [List.filter_cons]
    cases hq : q x with
    | true => rw [hx hq]; simpa using ih
    | false => cases p x <;> simp <;> omega
theorem left_snoc {w c out : List Elem} {e : Elem} (he : e ∈ c) (hn : nowS w out e.1 = false) : leftO w c (out ++ [e]) + 1 ≤ leftO w c out := by
  unfold leftO
  induction c with
  | nil => simp at he
  | cons x c ih =>
    have mono : (c.filter fun y => !(nowS w (out ++ [e]) y.1)).length ≤ (c.filter fun y => !(nowS w out y.1)).length :=
      filter_len_mono c fun y _ hy => by
        rw [nowS_snoc] at hy
        cases h : nowS w out y.1 with
        | false => rfl
        | true => rw [h] at hy; simp at hy
    simp only [List.filter_cons]
    by_cases hx : x = e
    · subst hx
      have h1 : nowS w (out ++ [x]) x.1 = true := by rw [nowS_snoc]; simp
      rw [h1, hn]
      simp; omega
    · have he' : e ∈ c := by
        rcases List.mem_cons.1 he with h | h
        · exact (hx h.symm).elim
        · exact h
      have ih := ih he'
      have hk : nowS w (out ++ [e]) x.1 = true ∨ nowS w (out ++ [e]) x.1 = nowS w out x.1 := by
        rw [nowS_snoc]; cases (e.1 == x.1) <;> cases nowS w out x.1 <;> simp
      rcases hk with hk | hk
      · rw [hk]
        cases nowS w out x.1 <;> simp <;> omega
      · rw [hk]
        cases nowS w out x.1 <;> simp <;> omega
theorem step_len {w c out : List Elem} {e : Elem} (he : e ∈ c) : out.length ≤ (stepO w out e).length ∧ (stepO w out e).length + leftO w c (stepO w out e) ≤ out.length + leftO w c out ∧ ((stepO w out e).length = out.length → stepO w out e = out) := by
  unfold stepO
  cases hn : nowS w out e.1 with
  | true => simp
  | false =>
    rw [if_neg (by simp)]
    cases hp : (e.2.2.1 == 0 || nowS w out e.2.2.1) with
    | false => simp
    | true =>
      have := left_snoc (w := w) he hn
      rw [if_pos rfl]
      refine ⟨by simp, by simp; omega, fun h => by simp at h⟩
theorem fold_len {w c : List Elem} : ∀ (l out : List Elem), (∀ e : Elem, e ∈ l → e ∈ c) → out.length ≤ (l.foldl (stepO w) out).length ∧ (l.foldl (stepO w) out).length + leftO w c (l.foldl (stepO w) out) ≤ out.length + leftO w c out ∧ ((l.foldl (stepO w) out).length = out.length → l.foldl (stepO w) out = out)
  | [], out, _ => by simp
  | e :: l, out, h => by
    obtain ⟨a1, a2, a3⟩ := step_len (w := w) (out := out) (h e (by simp))
    obtain ⟨b1, b2, b3⟩ := fold_len (w := w) (c := c) l (stepO w out e) fun y hy => h y (by simp [hy])
    rw [List.foldl_cons]
    refine ⟨by omega, by omega, fun hl => ?_⟩
    have e1 : stepO w out e = out := a3 (by omega)
    rw [b3 (by omega), e1]
theorem pass_len (w c out : List Elem) : out.length ≤ (passO w c out).length ∧ (passO w c out).length + leftO w c (passO w c out) ≤ out.length + leftO w c out ∧ ((passO w c out).length = out.length → passO w c out = out) := fold_len c out fun _ h => h
theorem iter_fix {w c out : List Elem} (h : passO w c out = out) : ∀ k, iterO w c k out = out
  | 0 => rfl
  | k + 1 => by show iterO w c k (passO w c out) = out; rw [h]; exact iter_fix h k
theorem left_le (w c out : List Elem) : leftO w c out ≤ c.length := filter_len_le _

/-- What is had by now. -/
def Hv (w out have_ : List Elem) : Prop := Ris have_ ∧ (∀ n, hasN n have_ = nowS w out n) ∧ have_.length ≤ w.length + out.length
theorem Hv.put {w out hv : List Elem} (h : Hv w out hv) (e : Elem) : Hv w (out ++ [e]) (putS hv e) := by
  obtain ⟨h1, h2, h3⟩ := h
  refine ⟨put_ris _ h1, fun n => ?_, ?_⟩
  · rw [nowS_snoc, ← h2, Bool.eq_iff_iff, Bool.or_eq_true, hasN_iff, hasN_iff]
    constructor
    · rintro ⟨x, hx, hn⟩
      rcases mem_putS.1 hx with rfl | ⟨hx, _⟩
      · exact .inr (by simpa using hn)
      · exact .inl ⟨x, hx, hn⟩
    · rintro (⟨x, hx, hn⟩ | hn)
      · by_cases he : x.1 = e.1
        · exact ⟨e, mem_putS.2 (.inl rfl), by omega⟩
        · exact ⟨x, mem_putS.2 (.inr ⟨hx, he⟩), hn⟩
      · exact ⟨e, mem_putS.2 (.inl rfl), by simpa using hn⟩
  · have := put_len hv e; simp; omega

theorem ord_l7 (w c : List Elem) (K0 : (List Elem) → (List Elem) → Bool → (List Elem) → Prop) (hw : w.length ≤ 1000) (hc : c.length ≤ 1000) :
    ∀ (k i : Nat) (hv : List Elem) (more : Bool) (out : List Elem) (n : Nat), i + k = c.length → k < n → Hv w out hv → out.length + k ≤ 10000 →
    (∀ hv', Hv w ((c.drop i).foldl (stepO w) out) hv' → K0 c hv' (more || decide (out.length < ((c.drop i).foldl (stepO w) out).length)) ((c.drop i).foldl (stepO w) out)) →
    diff.ordered.l7 K0 n c hv more c ((c.length : Nat) : Int) (i : Int) out
  | 0, i, hv, more, out, n, hi, hn, hh, ho, h => by
    obtain ⟨n, rfl⟩ : ∃ m, n = m + 1 := ⟨n - 1, by omega⟩
    simp only [diff.ordered.l7]
    rw [lt_false (by omega), br_false]
    rw [List.drop_eq_nil_of_le (by omega)] at h
    simpa using h hv hh
  | k + 1, i, hv, more, out, n, hi, hn, hh, ho, h => by
    obtain ⟨n, rfl⟩ : ∃ m, n = m + 1 := ⟨n - 1, by omega⟩
    have hlt : i < c.length := by omega
    have hd : c.drop i = c[i] :: c.drop (i + 1) := List.drop_eq_getElem_cons hlt
    rw [hd, List.foldl_cons] at h
    simp only [diff.ordered.l7]
    rw [lt_true hlt, br_true, ix_nat _ _ _ hlt]
    obtain ⟨h1, h2, h3⟩ := hh
    refine ⟨⟨by omega, by omega⟩, cFind_law _ _ _ h1 (by omega) (cFind_law _ _ _ h1 (by omega) ?_)⟩
    rw [h2, h2]
    have skip : stepO w out c[i] = out → diff.ordered.j24 (fun a b c d e f g => diff.ordered.l7 K0 n a b c d e f g) c hv more c ((c.length : Nat) : Int) (i : Int) false out c[i] := fun e => by
      unfold diff.ordered.j24 diff.ordered.j107
      rw [br_false, wrap_succ i (by omega)]
      rw [e] at h
      exact ord_l7 w c K0 hw hc k (i + 1) hv more out n (by omega) (by omega) ⟨h1, h2, h3⟩ (by omega) h
    have take : stepO w out c[i] = out ++ [c[i]] → diff.ordered.j24 (fun a b c d e f g => diff.ordered.l7 K0 n a b c d e f g) c hv more c ((c.length : Nat) : Int) (i : Int) true out c[i] := fun e => by
      unfold diff.ordered.j24 diff.ordered.j107
      rw [br_true, wrap_succ i (by omega)]
      refine cPut_law _ _ _ h1 (by omega) ⟨⟨by simp; omega, by simp; omega⟩, ?_⟩
      rw [e] at h
      refine ord_l7 w c K0 hw hc k (i + 1) _ true _ n (by omega) (by omega) (Hv.put ⟨h1, h2, h3⟩ _) (by simp; omega) fun hv' hh' => ?_
      have hl := (fold_len (w := w) (c := c) (c.drop (i + 1)) (out ++ [c[i]]) fun y hy => List.mem_of_mem_drop hy).1
      have := h hv' hh'
      rw [decide_eq_true (by simp at hl; omega), Bool.or_true] at this
      rw [Bool.true_or]
      exact this
    cases hn1 : nowS w out c[i].1 with
    | true =>
      rw [Bool.not_true, br_false]
      exact skip (by unfold stepO; rw [if_pos hn1])
    | false =>
      rw [Bool.not_false, br_true]
      cases hp : nowS w out c[i].2.2.1 with
      | true =>
        rw [br_true]
        exact take (by unfold stepO; rw [if_neg (by rw [hn1]; simp), if_pos (by rw [hp]; simp)])
      | false =>
        rw [br_false]
        cases hz : c[i].2.2.1 == 0 with
        | true => exact take (by unfold stepO; rw [if_neg (by rw [hn1]; simp), if_pos (by rw [hz]; simp)])
        | false => exact skip (by unfold stepO; rw [if_neg (by rw [hn1]; simp), if_neg (by rw [hz, hp]; simp)])
theorem ord_l4 (w c F : List Elem) (K0 : (List Elem) → (List Elem) → (List Elem) → Prop) (hw : w.length ≤ 1000) (hc : c.length ≤ 1000) (h : ∀ hv, Hv w F hv → K0 c hv F) :
    ∀ (m : Nat) (out hv : List Elem) (n r : Nat), leftO w c out ≤ m → m + 2 ≤ n → Hv w out hv → out.length + leftO w c out ≤ c.length → F = iterO w c r out → leftO w c out + 1 ≤ r →
    diff.ordered.l4 K0 n c hv true out
  | m, out, hv, n, r, hm, hn, hh, ho, hF, hr => by
    obtain ⟨n, rfl⟩ : ∃ q, n = q + 1 := ⟨n - 1, by omega⟩
    simp only [diff.ordered.l4]
    rw [br_true]
    obtain ⟨p1, p2, p3⟩ := pass_len w c out
    refine ⟨c.length + 1, ord_l7 w c _ hw hc c.length 0 hv false out _ (by omega) (by omega) hh (by omega) ?_⟩
    rw [List.drop_zero]
    intro hv' hh'
    change Hv w (passO w c out) hv' at hh'
    change diff.ordered.l4 K0 n c hv' (false || decide (out.length < (passO w c out).length)) (passO w c out)
    rw [Bool.false_or]
    by_cases hl : out.length < (passO w c out).length
    · rw [decide_eq_true hl]
      obtain ⟨r, rfl⟩ : ∃ q, r = q + 1 := ⟨r - 1, by omega⟩
      obtain ⟨m, rfl⟩ : ∃ q, m = q + 1 := ⟨m - 1, by omega⟩
      exact ord_l4 w c F K0 hw hc h m (passO w c out) hv' n r (by omega) (by omega) hh' (by omega) hF (by omega)
    · rw [decide_eq_false hl]
      have e : passO w c out = out := p3 (by omega)
      obtain ⟨n, rfl⟩ : ∃ q, n = q + 1 := ⟨n - 1, by omega⟩
      simp only [diff.ordered.l4]
      rw [br_false]
      have : F = out := by rw [hF]; exact iter_fix e r
      rw [e] at hh' ⊢
      rw [← this] at hh' ⊢
      exact h hv' hh'
theorem left0 {w c out : List Elem} : leftO w c out = 0 ↔ ∀ e : Elem, e ∈ c → nowS w out e.1 = true := by
  unfold leftO
  rw [List.length_eq_zero_iff, List.filter_eq_nil_iff]
  constructor
  · intro h e he; simpa using h e he
  · intro h e he; simpa using h e he
theorem ord_l15 (w c F hv : List Elem) (K : Bool → (List Elem) → Prop) (hh : Hv w F hv) (hl : hv.length ≤ 100000) (hc : c.length ≤ 1000) (h : K (decide (leftO w c F = 0)) (if leftO w c F = 0 then F else [])) :
    ∀ (k i n : Nat), i + k = c.length → k < n → (∀ a (ha : a < c.length), a < i → nowS w F c[a].1 = true) → diff.ordered.l15 K (fun o => K true o) n hv c ((c.length : Nat) : Int) (i : Int) F
  | 0, i, n, hi, hn, hd => by
    obtain ⟨n, rfl⟩ : ∃ q, n = q + 1 := ⟨n - 1, by omega⟩
    simp only [diff.ordered.l15]
    rw [lt_false (by omega), br_false]
    have : leftO w c F = 0 := left0.2 fun e he => by
      obtain ⟨a, ha, rfl⟩ := List.mem_iff_getElem.1 he
      exact hd a ha (by omega)
    rw [decide_eq_true this, if_pos this] at h; exact h
  | k + 1, i, n, hi, hn, hd => by
    obtain ⟨n, rfl⟩ : ∃ q, n = q + 1 := ⟨n - 1, by omega⟩
    have hlt : i < c.length := by omega
    simp only [diff.ordered.l15]
    rw [lt_true hlt, br_true, ix_nat _ _ _ hlt, wrap_succ i (by omega)]
    refine ⟨⟨by omega, by omega⟩, cFind_law _ _ _ hh.1 (by omega) ?_⟩
    rw [hh.2.1]
    cases hx : nowS w F c[i].1 with
    | false =>
      rw [Bool.not_false, br_true]
      have : ¬ leftO w c F = 0 := fun h0 => by have := left0.1 h0 _ (List.getElem_mem hlt); rw [hx] at this; cases this
      rw [decide_eq_false this, if_neg this] at h; exact h
    | true =>
      rw [Bool.not_true, br_false]
      refine ord_l15 w c F hv K hh hl hc h k (i + 1) n (by omega) (by omega) fun a ha hai => ?_
      rcases Nat.lt_or_ge a i with hb | hb
      · exact hd a ha hb
      · have : a = i := by omega
        subst this; exact hx
theorem nowS_nil (w : List Elem) (n : Int) : nowS w [] n = hasN n w := by simp [nowS, hasN, here]
theorem ordered_law (c w : List Elem) (K : List Elem → Bool → Prop) (hs : Ris w) (hw : w.length ≤ 1000) (hc : c.length ≤ 1000) (h : K (if okO c w = true then orderS c w else []) (okO c w)) : diff.ordered c w K := by
  unfold diff.ordered
  have hl := left_le w c []
  refine ⟨c.length + 2, ord_l4 w c (orderS c w) _ hw hc (fun hv hh => ?_) c.length [] w _ (c.length + 1) hl (by omega) ⟨hs, fun n => (nowS_nil w n).symm, by simp⟩ (by simpa using hl) rfl (by omega)⟩
  have hlen : (orderS c w).length ≤ c.length := by
    have key : ∀ (k : Nat) (out : List Elem), (iterO w c k out).length + leftO w c (iterO w c k out) ≤ out.length + leftO w c out := by
      intro k
      induction k with
      | zero => intro out; exact Nat.le_refl _
      | succ k ih => intro out; exact Nat.le_trans (ih _) (pass_len w c out).2.1
    have := key (c.length + 1) []
    show (iterO w c (c.length + 1) []).length ≤ _
    simp at this; omega
  refine ⟨c.length + 1, ord_l15 w c (orderS c w) hv (fun b o => K o b) hh (by have := hh.2.2; omega) hc ?_ c.length 0 _ (by omega) (by omega) (fun a ha h => by omega)⟩
  unfold okO at h
  by_cases h0 : leftO w c (orderS c w) = 0
  · simpa [h0] using h
  · simpa [h0] using h
end Go.Iw
