/- Plain laws: the edits between two charts lead there: what is added. -/
import Derived.Test.YtdlhckmdllfamaaCQ13
import Derived.Test.YtdlhckmdllfamaaCLdo
namespace Go.Iw
open Go.Iv
set_option linter.unusedVariables false
set_option linter.unusedSimpArgs false

theorem applyS_cons {c d : List Elem} {x : Edit} {r : List Edit} {i : Nat} (h : oneT c x = (d, 0)) : applyS c (x :: r) i = applyS d r (i + 1) := by
  show (if _ then _ else _) = _
  rw [h]; rfl
theorem applyS_append : ∀ (l r : List Edit) (c d : List Elem) (i : Nat), applyS c l i = (d, 0, 0) → applyS c (l ++ r) i = applyS d r (i + l.length)
  | [], r, c, d, i, h => by
    have : c = d := congrArg (·.1) h
    subst this; rfl
  | x :: l, r, c, d, i, h => by
    have h' : (if (oneT c x).2 = 0 then applyS (oneT c x).1 l (i + 1) else ([], (i : Int), (oneT c x).2)) = (d, 0, 0) := h
    by_cases he : (oneT c x).2 = 0
    · rw [if_pos he] at h'
      show (if _ then _ else _) = _
      rw [if_pos he]
      have := applyS_append l r _ d (i + 1) h'
      refine this.trans ?_
      rw [List.length_cons]
      congr 1; omega
    · rw [if_neg he] at h'
      exact (he (congrArg (·.2.2) h')).elim

/-- Parents are there. -/
def Shut (c : List Elem) : Prop := ∀ e : Elem, e ∈ c → e.2.2.1 = 0 ∨ ∃ x : Elem, x ∈ c ∧ x.1 = e.2.2.1
/-- Numbers are 1 at least. -/
def Pos (c : List Elem) : Prop := ∀ e : Elem, e ∈ c → 1 ≤ e.1

theorem add_one {c : List Elem} {e : Elem} (hs : Ris c) (hc : Shut c) (hid : 1 ≤ e.1) (hno : hasN e.1 c = false) (hp : e.2.2.1 = 0 ∨ hasN e.2.2.1 c = true) : oneT c (addE e) = (putS c e, 0) := by
  refine mkAdd (x := addE e) hs ((add_right (x := addE e) (.inl rfl)).2 ⟨by show e.1 ≠ 0; omega, rfl, rfl, rfl⟩) rfl hno ?_ ?_
  · rcases hp with h | h
    · exact thereS_iff.2 (.inl h)
    · exact thereS_iff.2 (.inr (hasN_iff.1 h))
  · refine kidB_no.2 fun y hy he => ?_
    rcases hc y hy with h | ⟨x, hx, h⟩
    · have h2 : y.2.2.1 = e.1 := he
      omega
    · exact hasN_no.1 hno x hx (by rw [h]; exact he)

/-! What is added. -/
def AddSeq : List Elem → List Elem → Prop
  | _, [] => True
  | d, e :: r => hasN e.1 d = false ∧ (e.2.2.1 = 0 ∨ hasN e.2.2.1 d = true) ∧ AddSeq (putS d e) r
theorem addSeq_snoc : ∀ (l : List Elem) (d : List Elem) (e : Elem), AddSeq d (l ++ [e]) ↔ AddSeq d l ∧ hasN e.1 (l.foldl putS d) = false ∧ (e.2.2.1 = 0 ∨ hasN e.2.2.1 (l.foldl putS d) = true)
  | [], d, e => by simp [AddSeq]
  | x :: l, d, e => by
    show _ ∧ _ ∧ AddSeq (putS d x) (l ++ [e]) ↔ _
    rw [addSeq_snoc l (putS d x) e]
    show _ ↔ (_ ∧ _ ∧ _) ∧ _
    rw [List.foldl_cons]
    constructor
    · rintro ⟨a, b, c, d, e⟩; exact ⟨⟨a, b, c⟩, d, e⟩
    · rintro ⟨⟨a, b, c⟩, d, e⟩; exact ⟨a, b, c, d, e⟩
theorem hasN_put {c : List Elem} {e : Elem} {n : Int} : hasN n (putS c e) = (hasN n c || e.1 == n) := by
  rw [Bool.eq_iff_iff, Bool.or_eq_true, hasN_iff, hasN_iff]
  constructor
  · rintro ⟨x, hx, hn⟩
    rcases mem_putS.1 hx with rfl | ⟨hx, _⟩
    · exact .inr (by simpa using hn)
    · exact .inl ⟨x, hx, hn⟩
  · rintro (⟨x, hx, hn⟩ | hn)
    · by_cases he : x.1 = e.1
      · exact ⟨e, mem_putS.2 (.inl rfl), by omega⟩
      · exact ⟨x, mem_putS.2 (.inr ⟨hx, he⟩), hn⟩
    · exact ⟨e, mem_putS.2 (.inl rfl), by simpa using hn⟩
theorem fold_has : ∀ (l d : List Elem) (n : Int), hasN n (l.foldl putS d) = nowS d l n
  | [], d, n => by simp [nowS, hasN, here]
  | e :: l, d, n => by
    rw [List.foldl_cons, fold_has l (putS d e) n]
    unfold nowS
    rw [hasN_put]
    have : hasN n (e :: l) = (e.1 == n || hasN n l) := by
      rw [show e :: l = [e] ++ l from rfl, hasN_append, hasN_one]
    rw [this, Bool.or_assoc]
theorem fold_mem : ∀ (l d : List Elem), AddSeq d l → ∀ z : Elem, z ∈ l.foldl putS d ↔ z ∈ d ∨ z ∈ l
  | [], d, _, z => by simp
  | e :: l, d, h, z => by
    obtain ⟨h1, _, h3⟩ := h
    rw [List.foldl_cons, fold_mem l (putS d e) h3 z, mem_putS, List.mem_cons]
    have := hasN_no.1 h1
    constructor
    · rintro ((h | ⟨h, _⟩) | h)
      · exact .inr (.inl h)
      · exact .inl h
      · exact .inr (.inr h)
    · rintro (h | h | h)
      · exact .inl (.inr ⟨h, this z h⟩)
      · exact .inl (.inl h)
      · exact .inr h
theorem fold_ris : ∀ (l d : List Elem), Ris d → Ris (l.foldl putS d)
  | [], d, h => h
  | e :: l, d, h => fold_ris l _ (put_ris e h)
theorem shut_put {c : List Elem} {e : Elem} (h : Shut c) (hno : hasN e.1 c = false) (hp : e.2.2.1 = 0 ∨ hasN e.2.2.1 c = true) : Shut (putS c e) := by
  have hn := hasN_no.1 hno
  intro y hy
  have keep : ∀ m, (∃ x : Elem, x ∈ c ∧ x.1 = m) → ∃ x : Elem, x ∈ putS c e ∧ x.1 = m := fun m ⟨x, hx, hm⟩ => ⟨x, mem_putS.2 (.inr ⟨hx, hn x hx⟩), hm⟩
  rcases mem_putS.1 hy with rfl | ⟨hy, _⟩
  · rcases hp with hp | hp
    · exact .inl hp
    · exact .inr (keep _ (hasN_iff.1 hp))
  · rcases h y hy with h | h
    · exact .inl h
    · exact .inr (keep _ h)
theorem adds_all : ∀ (l d : List Elem) (i : Nat), Ris d → Shut d → (∀ e : Elem, e ∈ l → 1 ≤ e.1) → AddSeq d l → applyS d (l.map addE) i = (l.foldl putS d, 0, 0)
  | [], d, i, _, _, _, _ => rfl
  | e :: l, d, i, hs, hc, hp, h => by
    obtain ⟨h1, h2, h3⟩ := h
    rw [List.map_cons, applyS_cons (add_one hs hc (hp e (by simp)) h1 h2), List.foldl_cons]
    exact adds_all l (putS d e) (i + 1) (put_ris e hs) (shut_put hc h1 h2) (fun x hx => hp x (by simp [hx])) h3
theorem addSeq_step {w out : List Elem} (e : Elem) (h : AddSeq w out) : AddSeq w (stepO w out e) := by
  unfold stepO
  cases hn : nowS w out e.1 with
  | true => exact h
  | false =>
    rw [if_neg (by simp)]
    split
    · rename_i hp
      refine (addSeq_snoc out w e).2 ⟨h, by rw [fold_has]; exact hn, ?_⟩
      rw [fold_has]
      simpa using hp
    · exact h
theorem addSeq_fold {w : List Elem} : ∀ (c out : List Elem), AddSeq w out → AddSeq w (c.foldl (stepO w) out)
  | [], out, h => h
  | e :: c, out, h => addSeq_fold c _ (addSeq_step e h)
theorem addSeq_iter {w c : List Elem} : ∀ (k : Nat) (out : List Elem), AddSeq w out → AddSeq w (iterO w c k out)
  | 0, out, h => h
  | k + 1, out, h => addSeq_iter k _ (addSeq_fold c out h)
theorem addSeq_order (c w : List Elem) : AddSeq w (orderS c w) := addSeq_iter _ [] trivial
theorem sub_step {w c out : List Elem} {e : Elem} (he : e ∈ c) (h : ∀ x : Elem, x ∈ out → x ∈ c) : ∀ x : Elem, x ∈ stepO w out e → x ∈ c := by
  intro x hx
  unfold stepO at hx
  split at hx
  · exact h x hx
  · split at hx
    · rcases List.mem_append.1 hx with hx | hx
      · exact h x hx
      · simp at hx; rw [hx]; exact he
    · exact h x hx
theorem sub_fold {w c : List Elem} : ∀ (l out : List Elem), (∀ x : Elem, x ∈ l → x ∈ c) → (∀ x : Elem, x ∈ out → x ∈ c) → ∀ x : Elem, x ∈ l.foldl (stepO w) out → x ∈ c
  | [], out, _, h => h
  | e :: l, out, hl, h => sub_fold l _ (fun x hx => hl x (by simp [hx])) (sub_step (hl e (by simp)) h)
theorem sub_iter {w c : List Elem} : ∀ (k : Nat) (out : List Elem), (∀ x : Elem, x ∈ out → x ∈ c) → ∀ x : Elem, x ∈ iterO w c k out → x ∈ c
  | 0, out, h => h
  | k + 1, out, h => sub_iter k _ (sub_fold c out (fun _ h => h) h)
theorem sub_order (c w : List Elem) : ∀ x : Elem, x ∈ orderS c w → x ∈ c := sub_iter _ [] fun x hx => by simp at hx
end Go.Iw
