/- Plain laws: the order in which elements may be added, the document's. -/
import Derived.Test.YtdlhckmdllfamaaCQ7
namespace Go.Iw
open Go.Iv
set_option linter.unusedVariables false
set_option linter.unusedSimpArgs false

theorem ixN_get {α : Type} (z : α) (l : List α) (i : Nat) (h : i < l.length) : ixN z l i = l[i] := by simp [h]
theorem left_exact {w out : List Elem} {e : Elem} (hn : nowS w out e.1 = false) : ∀ {c : List Elem}, Ris c → e ∈ c → leftO w c (out ++ [e]) + 1 = leftO w c out
  | [], _, he => by simp at he
  | x :: c, hs, he => by
    have h1 := (ris_cons.1 hs).1
    unfold leftO
    simp only [List.filter_cons]
    by_cases hx : x = e
    · subst hx
      have a : nowS w (out ++ [x]) x.1 = true := by rw [nowS_snoc]; simp
      have b : (c.filter fun y => !(nowS w (out ++ [x]) y.1)) = c.filter fun y => !(nowS w out y.1) := by
        refine List.filter_congr fun y hy => ?_
        rw [nowS_snoc]
        have := h1 y hy
        have : (x.1 == y.1) = false := by simp; omega
        rw [this, Bool.or_false]
      rw [a, hn, b]; simp
    · have he' : e ∈ c := by
        rcases List.mem_cons.1 he with h | h
        · exact (hx h.symm).elim
        · exact h
      have ih := left_exact hn (ris_cons.1 hs).2 he'
      unfold leftO at ih
      have a : nowS w (out ++ [e]) x.1 = nowS w out x.1 := by
        rw [nowS_snoc]
        have := h1 e he'
        have : (e.1 == x.1) = false := by simp; omega
        rw [this, Bool.or_false]
      rw [a]
      cases nowS w out x.1 <;> simp <;> omega

/-- What the flags say. -/
def Tk (w c out : List Elem) (tk : List Bool) : Prop := tk.length = c.length ∧ (∀ (a : Nat) (ha : a < c.length) (ha' : a < tk.length), tk[a] = nowS w out c[a].1) ∧ (∀ x : Elem, x ∈ out → x ∈ c)
theorem Tk.put {w c out : List Elem} {tk : List Bool} (h : Tk w c out tk) (hs : Ris c) (i : Nat) (hi : i < c.length) : Tk w c (out ++ [c[i]]) (tk.set i true) := by
  obtain ⟨h1, h2, h3⟩ := h
  refine ⟨by simpa using h1, fun a ha ha' => ?_, fun x hx => ?_⟩
  · rw [List.getElem_set, nowS_snoc]
    by_cases e : i = a
    · subst e; simp
    · rw [if_neg e, h2 a ha (by omega)]
      have : (c[i].1 == c[a].1) = false := by
        rw [beq_eq_false_iff_ne]
        rcases Nat.lt_or_gt_of_ne e with hlt | hlt
        · have := ris_get hs i a ha hlt; omega
        · have := ris_get hs a i hi hlt; omega
      rw [this, Bool.or_false]
  · rcases List.mem_append.1 hx with hx | hx
    · exact h3 x hx
    · simp at hx; rw [hx]; exact List.getElem_mem hi

theorem rord_l14 (w c : List Elem) (rd : Int) (K0 : (List Elem) → (List Elem) → Int → Int → (List Elem) → (List Bool) → Prop) (hs : Ris c) (hw : w.length ≤ 1000) (hc : c.length ≤ 1000) :
    ∀ (k i : Nat) (tk : List Bool) (out : List Elem) (n : Nat), i + k = c.length → k < n → Tk w c out tk → out.length + k ≤ 10000 →
    (∀ tk', Tk w c ((c.drop i).foldl (stepO w) out) tk' → K0 c w (leftO w c ((c.drop i).foldl (stepO w) out) : Nat) rd ((c.drop i).foldl (stepO w) out) tk') →
    r12.order.l14 K0 n c w ((leftO w c out : Nat) : Int) rd (i : Int) out tk
  | 0, i, tk, out, n, hi, hn, ht, ho, h => by
    obtain ⟨n, rfl⟩ : ∃ m, n = m + 1 := ⟨n - 1, by omega⟩
    simp only [r12.order.l14]
    rw [lt_false (by omega), br_false]
    rw [List.drop_eq_nil_of_le (by omega)] at h
    exact h tk ht
  | k + 1, i, tk, out, n, hi, hn, ht, ho, h => by
    obtain ⟨n, rfl⟩ : ∃ m, n = m + 1 := ⟨n - 1, by omega⟩
    have hlt : i < c.length := by omega
    have ht0 := ht
    obtain ⟨t1, t2, t3⟩ := ht0
    rw [List.drop_eq_getElem_cons hlt, List.foldl_cons] at h
    simp only [r12.order.l14]
    have hln := left_le w c out
    rw [lt_true hlt, br_true, ix_nat _ _ _ hlt, Int.toNat_natCast, ixN_get _ _ _ (by omega), t2 i hlt (by omega)]
    refine ⟨⟨by omega, by omega⟩, by omega, ?_⟩
    have skip : stepO w out c[i] = out → r12.order.l14 K0 n c w ((leftO w c out : Nat) : Int) rd ((i + 1 : Nat) : Int) out tk := fun e => by
      rw [e] at h
      exact rord_l14 w c rd K0 hs hw hc k (i + 1) tk out n (by omega) (by omega) ht (by omega) h
    have go : ∀ b : Bool, nowS w out c[i].1 = false → (b = (c[i].2.2.1 == 0 || nowS w out c[i].2.2.1)) → r12.order.j38 (fun a b c d e f g => r12.order.l14 K0 n a b c d e f g) c w ((leftO w c out : Nat) : Int) rd (i : Int) b out tk := fun b hno hb => by
      unfold r12.order.j38 r12.order.j179
      rw [wrap_succ i (by omega)]
      cases b with
      | false => rw [br_false]; exact skip (by unfold stepO; rw [if_neg (by rw [hno]; simp), if_neg (by rw [← hb]; simp)])
      | true =>
        rw [br_true, ix_nat _ _ _ hlt, Int.toNat_natCast]
        refine ⟨⟨by omega, by omega⟩, by omega, ⟨by omega, by omega⟩, ⟨by simp; omega, by simp; omega⟩, ?_⟩
        have e : stepO w out c[i] = out ++ [c[i]] := by unfold stepO; rw [if_neg (by rw [hno]; simp), if_pos hb.symm]
        rw [e] at h
        have hx := left_exact hno hs (List.getElem_mem hlt)
        have hwr : IntKind.wrap .i64 (((leftO w c out : Nat) : Int) - 1) = ((leftO w c (out ++ [c[i]]) : Nat) : Int) := by rw [wrap_small (by omega) (by omega)]; omega
        rw [hwr]
        exact rord_l14 w c rd K0 hs hw hc k (i + 1) _ _ n (by omega) (by omega) (ht.put hs i hlt) (by simp; omega) h
    cases hn1 : nowS w out c[i].1 with
    | true =>
      rw [br_true]
      unfold r12.order.j179
      rw [wrap_succ i (by omega)]
      exact skip (by unfold stepO; rw [if_pos hn1])
    | false =>
      rw [br_false]
      refine ⟨⟨by omega, by omega⟩, rFind_law _ _ _ (by omega) ⟨⟨by omega, by omega⟩, ?_⟩⟩
      cases hz : c[i].2.2.1 == 0 with
      | true => rw [br_true]; exact go true hn1 (by rw [hz]; rfl)
      | false =>
        rw [br_false]
        refine ⟨⟨by omega, by omega⟩, rFind_law _ _ _ (by omega) ?_⟩
        rw [fidx_nonneg]
        cases hq : hasN c[i].2.2.1 w with
        | true => rw [br_true]; exact go true hn1 (by rw [hz]; unfold nowS; rw [hq]; rfl)
        | false =>
          rw [br_false]
          rcases fidx_spec c[i].2.2.1 c 0 with ⟨g1, g2⟩ | ⟨a, ha, g1, g2, g3, g4⟩
          · rw [g1, show decide ((-1 : Int) ≥ 0) = false from rfl, br_false]
            refine go false hn1 ?_
            have hno : hasN c[i].2.2.1 out = false := hasN_no.2 fun x hx e => by
              have : hasN c[i].2.2.1 c = true := hasN_iff.2 ⟨x, t3 x hx, e⟩
              simp [hasN, g2] at this
            rw [hz]; unfold nowS; rw [hq, hno]; rfl
          · rw [g1, show ((0 + a : Nat) : Int) = (a : Int) from by omega, decide_eq_true (by omega), br_true, Int.toNat_natCast, ixN_get _ _ _ (by omega), t2 a ha (by omega), g3]
            exact ⟨⟨by omega, by omega⟩, by omega, go _ hn1 (by rw [hz]; simp)⟩
theorem rord_l11 (w c : List Elem) (K0 : Int → (List Elem) → Prop) (hs : Ris c) (hw : w.length ≤ 1000) (hc : c.length ≤ 1000) :
    ∀ (k rd : Nat) (tk : List Bool) (out : List Elem) (n : Nat), rd + k = c.length + 1 → k < n → Tk w c out tk → out.length + leftO w c out ≤ c.length →
    K0 (leftO w c (iterO w c k out) : Nat) (iterO w c k out) → r12.order.l11 K0 n c w ((leftO w c out : Nat) : Int) (rd : Int) out tk
  | 0, rd, tk, out, n, hi, hn, ht, ho, h => by
    obtain ⟨n, rfl⟩ : ∃ m, n = m + 1 := ⟨n - 1, by omega⟩
    simp only [r12.order.l11]
    rw [decide_eq_false (by omega), br_false]
    exact h
  | k + 1, rd, tk, out, n, hi, hn, ht, ho, h => by
    obtain ⟨n, rfl⟩ : ∃ m, n = m + 1 := ⟨n - 1, by omega⟩
    simp only [r12.order.l11]
    rw [decide_eq_true (by omega), br_true]
    obtain ⟨p1, p2, p3⟩ := pass_len w c out
    refine ⟨c.length + 1, rord_l14 w c rd _ hs hw hc c.length 0 tk out _ (by omega) (by omega) ht (by omega) ?_⟩
    rw [List.drop_zero]
    intro tk' ht'
    rw [wrap_succ rd (by omega)]
    exact rord_l11 w c K0 hs hw hc k (rd + 1) tk' (passO w c out) n (by omega) (by omega) ht' (by omega) h
theorem rord_l5 (w c : List Elem) (K0 : (List Elem) → (List Elem) → Int → (List Elem) → (List Bool) → Prop) (hw : w.length ≤ 1000) (hc : c.length ≤ 1000)
    (h : ∀ tk, Tk w c [] tk → K0 c w (leftO w c [] : Nat) [] tk) :
    ∀ (k i : Nat) (tk : List Bool) (n : Nat), i + k = c.length → k < n → tk.length = c.length → (∀ (a : Nat) (ha : a < c.length) (ha' : a < tk.length), a < i → tk[a] = nowS w [] c[a].1) →
    r12.order.l5 K0 n c w ((leftO w (c.take i) [] : Nat) : Int) (i : Int) [] tk
  | 0, i, tk, n, hi, hn, hl, ht => by
    obtain ⟨n, rfl⟩ : ∃ m, n = m + 1 := ⟨n - 1, by omega⟩
    simp only [r12.order.l5]
    rw [lt_false (by omega), br_false, List.take_of_length_le (by omega)]
    exact h tk ⟨hl, fun a ha ha' => ht a ha ha' (by omega), fun x hx => by simp at hx⟩
  | k + 1, i, tk, n, hi, hn, hl, ht => by
    obtain ⟨n, rfl⟩ : ∃ m, n = m + 1 := ⟨n - 1, by omega⟩
    have hlt : i < c.length := by omega
    simp only [r12.order.l5, r12.order.j83]
    have hle := left_le w (c.take i) []
    rw [List.length_take] at hle
    rw [lt_true hlt, br_true, ix_nat _ _ _ hlt, Int.toNat_natCast, wrap_succ i (by omega)]
    refine ⟨⟨by omega, by omega⟩, rFind_law _ _ _ (by omega) ⟨⟨by omega, by omega⟩, by omega, ⟨by omega, by simp; omega⟩, by simp; omega, ?_⟩⟩
    rw [fidx_nonneg, ixN_get _ _ _ (by simp; omega), List.getElem_set_self]
    have ih := rord_l5 w c K0 hw hc h k (i + 1) (tk.set i (hasN c[i].1 w)) n (by omega) (by omega) (by simpa using hl) fun a ha ha' hai => by
      rw [List.getElem_set]
      by_cases e : i = a
      · subst e; rw [if_pos rfl, nowS_nil]
      · rw [if_neg e]; exact ht a ha (by omega) (by omega)
    have hsplit : leftO w (c.take (i + 1)) [] = leftO w (c.take i) [] + (if hasN c[i].1 w = true then 0 else 1) := by
      unfold leftO
      rw [List.take_succ_eq_append_getElem hlt, List.filter_append, List.length_append]
      simp only [List.filter_cons, nowS_nil, List.filter_nil]
      cases hasN c[i].1 w <;> simp
    rw [hsplit] at ih
    cases hh : hasN c[i].1 w with
    | true => rw [Bool.not_true, br_false]; rw [hh] at ih; simpa using ih
    | false =>
      rw [Bool.not_false, br_true]
      rw [hh] at ih
      rw [wrap_small (by omega) (by omega)]
      simpa using ih
theorem order_law (c w : List Elem) (K : List Elem → Bool → Prop) (hs : Ris c) (hw : w.length ≤ 1000) (hc : c.length ≤ 1000) (h : K (orderS c w) (okO c w)) : r12.order c w K := by
  unfold r12.order
  refine ⟨⟨rfl, by omega, by omega, by omega⟩, c.length + 1, ?_⟩
  have hl := left_le w c []
  refine rord_l5 w c _ hw hc (fun tk ht => ?_) c.length 0 _ _ (by omega) (by omega) (by simp) (fun a ha ha' h => by omega)
  refine ⟨c.length + 2, rord_l11 w c _ hs hw hc (c.length + 1) 0 tk [] _ (by omega) (by omega) ht (by simpa using hl) ?_⟩
  have e : ((((leftO w c (iterO w c (c.length + 1) []) : Nat) : Int)) == 0) = okO c w := by
    unfold okO orderS
    rw [Bool.eq_iff_iff]; simp
  rw [e]
  exact h
end Go.Iw
