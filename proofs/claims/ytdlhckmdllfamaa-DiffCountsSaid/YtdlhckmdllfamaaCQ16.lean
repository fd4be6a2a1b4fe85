/- Plain laws: the numbers of some charts, rising, each once. -/
import Derived.Test.YtdlhckmdllfamaaCQ15
namespace Go.Iw
open Go.Iv
set_option linter.unusedVariables false
set_option linter.unusedSimpArgs false

/-- Numbers that rise. -/
def RisI (l : List Int) : Prop := l.Pairwise fun x y => x < y
theorem risI_cons {x : Int} {c : List Int} : RisI (x :: c) ↔ (∀ y ∈ c, x < y) ∧ RisI c := List.pairwise_cons
theorem risI_ext : ∀ {c d : List Int}, RisI c → RisI d → (∀ x, x ∈ c ↔ x ∈ d) → c = d
  | [], [], _, _, _ => rfl
  | [], y :: d, _, _, h => by have := (h y).2 (by simp); simp at this
  | x :: c, [], _, _, h => by have := (h x).1 (by simp); simp at this
  | x :: c, y :: d, hc, hd, h => by
    have h1 := (risI_cons.1 hc).1
    have h2 := (risI_cons.1 hd).1
    have e : x = y := by
      rcases List.mem_cons.1 ((h x).1 (by simp)) with e | hx
      · exact e
      · rcases List.mem_cons.1 ((h y).2 (by simp)) with e | hy
        · exact e.symm
        · have := h1 y hy; have := h2 x hx; omega
    subst e
    congr 1
    refine risI_ext (risI_cons.1 hc).2 (risI_cons.1 hd).2 fun z => ⟨fun hz => ?_, fun hz => ?_⟩
    · rcases List.mem_cons.1 ((h z).1 (by simp [hz])) with rfl | h'
      · have := h1 z hz; omega
      · exact h'
    · rcases List.mem_cons.1 ((h z).2 (by simp [hz])) with rfl | h'
      · have := h2 z hz; omega
      · exact h'
theorem insI_mem (n : Int) : ∀ (l : List Int) (z : Int), z ∈ insI n l ↔ z = n ∨ z ∈ l
  | [], z => by simp [insI]
  | m :: r, z => by
    unfold insI
    split
    · simp
    · split
      · rename_i h; subst h; simp
      · rw [List.mem_cons, insI_mem n r z, List.mem_cons]
        constructor
        · rintro (h | h | h) <;> simp [h]
        · rintro (h | h | h) <;> simp [h]
theorem insI_ris (n : Int) : ∀ (l : List Int), RisI l → RisI (insI n l)
  | [], _ => by simp [insI, RisI]
  | m :: r, h => by
    have h1 := (risI_cons.1 h).1
    unfold insI
    split
    · refine risI_cons.2 ⟨fun y hy => ?_, h⟩
      rcases List.mem_cons.1 hy with rfl | hy
      · assumption
      · have := h1 y hy; omega
    · split
      · exact h
      · refine risI_cons.2 ⟨fun y hy => ?_, insI_ris n r (risI_cons.1 h).2⟩
        rcases (insI_mem n r y).1 hy with rfl | hy
        · omega
        · exact h1 y hy
theorem sortI_mem : ∀ (l : List Int) (z : Int), z ∈ sortI l ↔ z ∈ l
  | [], z => by simp [sortI]
  | n :: r, z => by show z ∈ insI n (sortI r) ↔ _; rw [insI_mem, sortI_mem r z, List.mem_cons]
theorem sortI_ris : ∀ (l : List Int), RisI (sortI l)
  | [] => List.Pairwise.nil
  | n :: r => insI_ris n _ (sortI_ris r)
theorem insI_len (n : Int) : ∀ l : List Int, (insI n l).length ≤ l.length + 1
  | [] => by simp [insI]
  | m :: r => by
    unfold insI
    split
    · simp
    · split
      · simp
      · have := insI_len n r; simp; omega
theorem sortI_len : ∀ l : List Int, (sortI l).length ≤ l.length
  | [] => by simp [sortI]
  | n :: r => by
    have := sortI_len r
    have := insI_len n (sortI r)
    show (insI n (sortI r)).length ≤ _
    simp; omega
/-- The document's way: where a number goes. -/
def lowI (n : Int) (l : List Int) : List Int := l.takeWhile fun x => decide (x < n)
def highI (n : Int) (l : List Int) : List Int := l.dropWhile fun x => decide (x < n)
theorem low_high (n : Int) (l : List Int) : lowI n l ++ highI n l = l := List.takeWhile_append_dropWhile
theorem insI_low (n : Int) : ∀ l : List Int, insI n l = if (highI n l).head? = some n then l else lowI n l ++ n :: highI n l
  | [] => rfl
  | m :: r => by
    unfold insI
    by_cases h1 : m < n
    · have a : lowI n (m :: r) = m :: lowI n r := by simp [lowI, h1]
      have b : highI n (m :: r) = highI n r := by simp [highI, h1]
      rw [if_neg (by omega), if_neg (by omega), a, b, insI_low n r]
      split <;> rfl
    · have a : lowI n (m :: r) = [] := by simp [lowI, h1]
      have b : highI n (m :: r) = m :: r := by simp [highI, h1]
      rw [a, b]
      by_cases h2 : n = m
      · subst h2; simp
      · rw [if_pos (by omega), if_neg (by simpa using fun h => h2 h.symm)]; rfl
def stI (l : List Int) : List Int := l.foldl (fun o n => insI n o) []
theorem stI_fold (l : List Int) : ∀ (o : List Int), RisI o → RisI (l.foldl (fun o n => insI n o) o) ∧ (∀ z, z ∈ l.foldl (fun o n => insI n o) o ↔ z ∈ o ∨ z ∈ l) ∧ (l.foldl (fun o n => insI n o) o).length ≤ o.length + l.length := by
  induction l with
  | nil => intro o h; simp [h]
  | cons n l ih =>
    intro o h
    obtain ⟨a, b, c⟩ := ih (insI n o) (insI_ris n o h)
    have := insI_len n o
    refine ⟨a, fun z => ?_, by rw [List.foldl_cons, List.length_cons]; omega⟩
    rw [List.foldl_cons, b z, insI_mem, List.mem_cons]
    constructor
    · rintro ((h | h) | h) <;> simp [h]
    · rintro (h | h | h) <;> simp [h]
theorem stI_eq (l : List Int) : stI l = sortI l := by
  obtain ⟨a, b, _⟩ := stI_fold l [] List.Pairwise.nil
  refine risI_ext a (sortI_ris l) fun z => ?_
  rw [sortI_mem]
  have := b z
  unfold stI
  rw [this]; simp
theorem stI_snoc (l : List Int) (n : Int) : stI (l ++ [n]) = insI n (stI l) := by simp [stI]

/-! The loops. -/
theorem ids_l10 (l : List (List Elem)) (i k id : Int) (out : List Int) (K0 : (List (List Elem)) → Int → Int → Int → Int → (List Int) → Prop) (ho : out.length ≤ 1000000)
    (h : K0 l i k id ((lowI id out).length : Nat) out) : ∀ (q p n : Nat), p + q = (lowI id out).length → q < n → r09.IDs.l10 K0 n l i k id (p : Int) out
  | 0, p, n, hp, hn => by
    obtain ⟨n, rfl⟩ : ∃ m, n = m + 1 := ⟨n - 1, by omega⟩
    have hle : (lowI id out).length ≤ out.length := by have := congrArg List.length (low_high id out); simp at this; omega
    simp only [r09.IDs.l10, r09.IDs.j22]
    have e : p = (lowI id out).length := by omega
    subst e
    by_cases hl : (lowI id out).length < out.length
    · rw [lt_true hl, br_true, Int.toNat_natCast, ixN_get _ _ _ hl]
      have : ¬ out[(lowI id out).length] < id := by
        have hd : out.drop (lowI id out).length = highI id out := by
          conv => lhs; arg 2; rw [← low_high id out]
          exact List.drop_left
        rw [List.drop_eq_getElem_cons hl] at hd
        have hq := List.head?_dropWhile_not (p := fun x => decide (x < id)) (l := out)
        have : (out.dropWhile fun x => decide (x < id)) = highI id out := rfl
        rw [this, ← hd, List.head?_cons] at hq
        simpa using hq
      rw [decide_eq_false this, br_false]
      exact ⟨⟨by omega, by omega⟩, hl, h⟩
    · rw [lt_false (by omega), br_false, br_false]
      exact h
  | q + 1, p, n, hp, hn => by
    obtain ⟨n, rfl⟩ : ∃ m, n = m + 1 := ⟨n - 1, by omega⟩
    have hle : (lowI id out).length ≤ out.length := by have := congrArg List.length (low_high id out); simp at this; omega
    have hl : p < out.length := by omega
    simp only [r09.IDs.l10, r09.IDs.j22]
    rw [lt_true hl, br_true, Int.toNat_natCast, ixN_get _ _ _ hl]
    have : out[p] < id := by
      have hp' : p < (lowI id out).length := by omega
      have e : out[p] = (lowI id out)[p] := by
        have : (lowI id out ++ highI id out)[p]'(by simp; omega) = (lowI id out)[p] := List.getElem_append_left hp'
        rw [← this]; congr 1; exact (low_high id out).symm
      rw [e]
      have hm : (lowI id out)[p] ∈ out.takeWhile fun x => decide (x < id) := List.getElem_mem hp'
      have := List.all_takeWhile (p := fun x => decide (x < id)) (l := out)
      rw [List.all_eq_true] at this
      simpa using this _ hm
    rw [decide_eq_true this, br_true, wrap_succ p (by omega)]
    exact ⟨⟨by omega, by omega⟩, hl, ids_l10 l i k id out K0 ho h q (p + 1) n (by omega) (by omega)⟩
theorem ids_l15 (l : List (List Elem)) (i k id : Int) (p : Nat) (out : List Int) (K0 : (List (List Elem)) → Int → Int → Int → Int → (List Int) → Prop) (ho : out.length ≤ 1000000)
    (hp : p ≤ out.length) (h : ∀ w : Int, K0 l i k id (p : Int) (out.take p ++ w :: out.drop p)) : ∀ (q j n : Nat) (w : Int), j = p + q → j ≤ out.length → q < n → r09.IDs.l15 K0 n l i k id (p : Int) (j : Int) (out.take j ++ w :: out.drop j)
  | 0, j, n, w, hj, hjl, hn => by
    obtain ⟨n, rfl⟩ : ∃ m, n = m + 1 := ⟨n - 1, by omega⟩
    simp only [r09.IDs.l15]
    have : j = p := by omega
    subst this
    rw [show decide ((j : Int) > (j : Int)) = false from by simp, br_false]
    exact h w
  | q + 1, j, n, w, hj, hjl, hn => by
    obtain ⟨n, rfl⟩ : ∃ m, n = m + 1 := ⟨n - 1, by omega⟩
    have hlen : (out.take j ++ w :: out.drop j).length = out.length + 1 := by simp; omega
    simp only [r09.IDs.l15]
    have hw : IntKind.wrap .i64 ((j : Int) - 1) = ((j - 1 : Nat) : Int) := by rw [wrap_small (by omega) (by omega)]; omega
    rw [show decide ((j : Int) > (p : Int)) = true from by simp; omega, br_true, hw]
    rw [hlen, Int.toNat_natCast, Int.toNat_natCast]
    refine ⟨⟨by omega, by omega⟩, by omega, ⟨by omega, by omega⟩, by omega, ?_⟩
    rw [ixN_get _ _ _ (by rw [hlen]; omega)]
    have hlt : j - 1 < out.length := by omega
    have e1 : (out.take j ++ w :: out.drop j)[j - 1]'(by rw [hlen]; omega) = out[j - 1] := by
      rw [List.getElem_append_left (by simp; omega), List.getElem_take]
    rw [e1]
    have e2 : (out.take j ++ w :: out.drop j).set j out[j - 1] = out.take (j - 1) ++ out[j - 1] :: out.drop (j - 1) := by
      have hj' : (out.take j).length = j := by simp; omega
      rw [List.set_append_right _ _ (by omega), hj', Nat.sub_self]
      have t : out.take j = out.take (j - 1) ++ [out[j - 1]] := by
        rw [← List.take_succ_eq_append_getElem hlt]; congr 1; omega
      have d : out.drop (j - 1) = out[j - 1] :: out.drop j := by
        rw [List.drop_eq_getElem_cons hlt]; congr 2; omega
      rw [t, d, List.set_cons_zero, List.append_assoc]; rfl
    rw [e2]
    exact ids_l15 l i k id p out K0 ho hp h q (j - 1) n _ (by omega) (by omega) (by omega)
theorem ids_put (K0 : (List (List Elem)) → Int → Int → (List Int) → Prop) (l : List (List Elem)) (i k id : Int) (out : List Int) (t : Bool) (ho : out.length ≤ 1000000)
    (ht : t = decide ((highI id out).head? = some id)) (h : K0 l i (IntKind.wrap .i64 (k + 1)) (insI id out)) : r09.IDs.j26 K0 l i k id ((lowI id out).length : Nat) t out := by
  unfold r09.IDs.j26 r09.IDs.j77
  rw [insI_low] at h
  have hle : (lowI id out).length ≤ out.length := by have := congrArg List.length (low_high id out); simp at this; omega
  have hd : out.drop (lowI id out).length = highI id out := by
    conv => lhs; arg 2; rw [← low_high id out]
    exact List.drop_left
  have htk : out.take (lowI id out).length = lowI id out := by
    conv => lhs; arg 2; rw [← low_high id out]
    exact List.take_left
  by_cases hh : (highI id out).head? = some id
  · rw [decide_eq_true hh] at ht
    rw [if_pos hh] at h
    rw [ht, br_true]; exact h
  · rw [decide_eq_false hh] at ht
    rw [if_neg hh] at h
    rw [ht, br_false]
    refine ⟨⟨by simp; omega, by simp; omega⟩, out.length + 1, ?_⟩
    have e : IntKind.wrap .i64 ((((out ++ [(0 : Int)]).length : Nat) : Int) - 1) = ((out.length : Nat) : Int) := by
      have h1 : (out ++ [(0 : Int)]).length = out.length + 1 := by simp
      rw [h1, wrap_small (by omega) (by omega)]; omega
    rw [e]
    have e2 : out ++ [(0 : Int)] = out.take out.length ++ (0 : Int) :: out.drop out.length := by simp
    rw [e2]
    refine ids_l15 l i k id (lowI id out).length out _ ho hle (fun w => ?_) (out.length - (lowI id out).length) out.length _ 0 (by omega) (Nat.le_refl _) (by omega)
    rw [Int.toNat_natCast]
    refine ⟨⟨by omega, by simp; omega⟩, by simp; omega, ?_⟩
    rw [List.set_append_right _ _ (by simp; omega), htk, hd, Nat.sub_self]
    exact h
theorem ids_l6 (l : List (List Elem)) (i : Nat) (hi : i < l.length) (K0 : (List (List Elem)) → Int → (List Int) → Prop) (hl : l.length ≤ 1000) (hL : (l[i]).length ≤ 100000) :
    ∀ (q k n : Nat) (P : List Int), k + q = (l[i]).length → q < n → P.length + q ≤ 100000 → K0 l (i : Int) (stI (P ++ (l[i].drop k).map (·.1))) → r09.IDs.l6 K0 n l (i : Int) (k : Int) (stI P)
  | 0, k, n, P, hk, hn, hP, h => by
    obtain ⟨n, rfl⟩ : ∃ m, n = m + 1 := ⟨n - 1, by omega⟩
    simp only [r09.IDs.l6]
    rw [ix_nat _ _ _ hi, lt_false (by omega), br_false]
    rw [List.drop_eq_nil_of_le (by omega)] at h
    exact ⟨⟨by omega, by omega⟩, by simpa using h⟩
  | q + 1, k, n, P, hk, hn, hP, h => by
    obtain ⟨n, rfl⟩ : ∃ m, n = m + 1 := ⟨n - 1, by omega⟩
    have hlt : k < (l[i]).length := by omega
    have hst : (stI P).length ≤ P.length := by have := (stI_fold P [] List.Pairwise.nil).2.2; simpa [stI] using this
    simp only [r09.IDs.l6]
    rw [ix_nat _ _ _ hi, lt_true hlt, br_true, ix_nat _ _ _ hlt]
    refine ⟨⟨by omega, by omega⟩, ⟨by omega, by omega⟩, ⟨by omega, by omega⟩, (stI P).length + 1, ?_⟩
    have hle : (lowI (l[i])[k].1 (stI P)).length ≤ (stI P).length := by have := congrArg List.length (low_high (l[i])[k].1 (stI P)); simp at this; omega
    refine ids_l10 l i k _ (stI P) _ (by omega) ?_ (lowI (l[i])[k].1 (stI P)).length 0 _ (by omega) (by omega)
    have hd : (stI P).drop (lowI (l[i])[k].1 (stI P)).length = highI (l[i])[k].1 (stI P) := by
      conv => lhs; arg 2; rw [← low_high (l[i])[k].1 (stI P)]
      exact List.drop_left
    have next : r09.IDs.l6 K0 n l (i : Int) (IntKind.wrap .i64 ((k : Int) + 1)) (insI (l[i])[k].1 (stI P)) := by
      rw [wrap_succ k (by omega), ← stI_snoc]
      refine ids_l6 l i hi K0 hl hL q (k + 1) n _ (by omega) (by omega) (by simp; omega) ?_
      rw [List.drop_eq_getElem_cons hlt, List.map_cons] at h
      rw [List.append_assoc]; exact h
    by_cases hl2 : (lowI (l[i])[k].1 (stI P)).length < (stI P).length
    · rw [lt_true hl2, br_true, Int.toNat_natCast, ixN_get _ _ _ hl2]
      refine ⟨⟨by omega, by omega⟩, hl2, ids_put _ l i k _ (stI P) _ (by omega) ?_ next⟩
      rw [← hd, List.drop_eq_getElem_cons hl2, List.head?_cons]
      rw [Bool.eq_iff_iff]; simp
    · rw [lt_false (by omega), br_false]
      refine ids_put _ l i k _ (stI P) _ (by omega) ?_ next
      rw [← hd, List.drop_eq_nil_of_le (by omega)]; simp
theorem ids_l3 (l : List (List Elem)) (K0 : (List Int) → Prop) (hl : l.length ≤ 1000) :
    ∀ (q i n : Nat) (P : List Int), i + q = l.length → q < n → P.length + ((l.drop i).flatMap id).length ≤ 100000 → K0 (stI (P ++ ((l.drop i).flatMap id).map (·.1))) → r09.IDs.l3 K0 n l (i : Int) (stI P)
  | 0, i, n, P, hi, hn, hP, h => by
    obtain ⟨n, rfl⟩ : ∃ m, n = m + 1 := ⟨n - 1, by omega⟩
    simp only [r09.IDs.l3]
    rw [lt_false (by omega), br_false]
    rw [List.drop_eq_nil_of_le (by omega)] at h
    simpa using h
  | q + 1, i, n, P, hi, hn, hP, h => by
    obtain ⟨n, rfl⟩ : ∃ m, n = m + 1 := ⟨n - 1, by omega⟩
    have hlt : i < l.length := by omega
    simp only [r09.IDs.l3]
    rw [lt_true hlt, br_true]
    rw [List.drop_eq_getElem_cons hlt, List.flatMap_cons] at h hP
    rw [List.length_append] at hP
    have hP : P.length + ((l[i]).length + ((l.drop (i + 1)).flatMap id).length) ≤ 100000 := hP
    refine ⟨(l[i]).length + 1, ids_l6 l i hlt _ hl (by omega) (l[i]).length 0 _ P (by omega) (by omega) (by omega) ?_⟩
    rw [wrap_succ i (by omega), List.drop_zero]
    refine ids_l3 l K0 hl q (i + 1) n _ (by omega) (by omega) (by simp only [List.length_append, List.length_map]; omega) ?_
    rw [List.map_append, ← List.append_assoc] at h
    exact h
theorem rIDs_law (l : List (List Elem)) (K : (List Int) → Prop) (hl : l.length ≤ 1000) (ht : (l.flatMap id).length ≤ 100000) (h : K (sortI ((l.flatMap id).map (·.1)))) : r09.IDs l K := by
  refine ⟨l.length + 1, ids_l3 l K hl l.length 0 _ [] (by omega) (by omega) (by simpa using ht) ?_⟩
  rw [List.drop_zero, List.nil_append, stI_eq]; exact h
/-- All numbers of two charts. -/
theorem ids_mem (l : List (List Elem)) (n : Int) : n ∈ sortI ((l.flatMap id).map (·.1)) ↔ ∃ c : List Elem, c ∈ l ∧ hasN n c = true := by
  rw [sortI_mem, List.mem_map]
  constructor
  · rintro ⟨e, he, rfl⟩
    obtain ⟨c, hc, he⟩ := List.mem_flatMap.1 he
    exact ⟨c, hc, hasN_iff.2 ⟨e, he, rfl⟩⟩
  · rintro ⟨c, hc, h⟩
    obtain ⟨e, he, rfl⟩ := hasN_iff.1 h
    exact ⟨e, List.mem_flatMap.2 ⟨c, hc, he⟩, rfl⟩
end Go.Iw
