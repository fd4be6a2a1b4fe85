/- Plain laws: charts made from numbers. -/
import Derived.Test.YtdlhckmdllfamaaCQ10
namespace Go.Iw
open Go.Iv
set_option linter.unusedVariables false
set_option linter.unusedSimpArgs false

/-- What is kept. -/
def Kp (c : List Elem) : Prop := RulesOk c ∧ AllB c
theorem kp_nil : Kp [] := ⟨⟨⟨List.Pairwise.nil, by simp, fun e he => by simp at he⟩, fun e he => by simp at he⟩, fun e he => by simp at he⟩
theorem kp_ris {c : List Elem} (h : Kp c) : Ris c := h.1.1.1
theorem kp_len {c : List Elem} (h : Kp c) : c.length ≤ 40 := h.1.1.2.1
theorem allB_put {c : List Elem} {e : Elem} (h : AllB c) (he : BE e) : AllB (putS c e) := fun x hx => by
  rcases mem_putS.1 hx with rfl | ⟨hx, _⟩
  · exact he
  · exact h x hx
theorem make_j77 (K0 : (List Act) → (List Elem) → Int → Prop) (l : List Act) (c : List Elem) (i : Nat) (e : Elem) (hi : i ≤ 1000) (hc : Kp c) (he : BE e) (h : ∀ d, Kp d → d.length ≤ c.length + 1 → K0 l d ((i + 1 : Nat) : Int)) : r09.Make.j77 K0 l c (i : Int) e := by
  unfold r09.Make.j77 r09.Make.j187
  have := kp_len hc
  have hl := put_len c e
  rw [wrap_succ i (by omega)]
  refine rPut_law _ _ _ (kp_ris hc) (by omega) (check_law _ _ (by omega) fun r id hr => ?_)
  by_cases h0 : r = 0
  · rw [show (r == 0) = true from by simp [h0], br_true]
    exact h _ ⟨hr h0, allB_put hc.2 he⟩ hl
  · rw [show (r == 0) = false from by simpa using h0, br_false]
    exact h c hc (by omega)
theorem bytes1 (x y : Int) : ((ByteArray.size (ByteArray.mk #[110])) + (ByteArray.size (Go.Iv.bytesOf [x]))) ≤ 9223372036854775807 := by
  have : (Go.Iv.bytesOf [x]).size = 1 := rfl
  rw [this]; decide
theorem make_j57 (K0 : (List Act) → (List Elem) → Int → Prop) (l : List Act) (c : List Elem) (i : Nat) (x : Act) (e : Elem) (hi : i ≤ 1000) (hc : Kp c) (he : BE e) (h : ∀ d, Kp d → d.length ≤ c.length + 1 → K0 l d ((i + 1 : Nat) : Int)) : r09.Make.j57 K0 l c (i : Int) x e := by
  unfold r09.Make.j57
  refine named_law _ _ fun b => br_any ⟨by omega, bytes1 _ 0, make_j77 K0 l c i _ hi hc he h⟩ (make_j77 K0 l c i _ hi hc he h)
theorem wrapB (n : Int) : 0 ≤ IntKind.wrap .u8 n ∧ IntKind.wrap .u8 n ≤ 255 := by rw [IntKind.wrap_u8]; omega
theorem make_loop (l : List Act) (K0 : (List Elem) → Prop) (hl : l.length ≤ 1000) (h : ∀ c, Kp c → c.length ≤ 24 → K0 c) : ∀ (k i : Nat) (c : List Elem) (n : Nat), l.length - i ≤ k → k < n → i ≤ 24 → c.length ≤ i → Kp c → r09.Make.l3 K0 n l c (i : Int)
  | k, i, c, 0, hk, hn, hi, hc, hI => by omega
  | k, i, c, n + 1, hk, hn, hi, hc, hI => by
    simp only [r09.Make.l3]
    unfold r09.Make.j8
    by_cases hlt : i < l.length
    · rw [lt_true hlt, br_true]
      by_cases h24 : i < 24
      · rw [decide_eq_true (by omega), br_true, ix_nat _ _ _ hlt]
        have ih : ∀ d, Kp d → d.length ≤ c.length + 1 → r09.Make.l3 K0 n l d ((i + 1 : Nat) : Int) := fun d hd hdl => make_loop l K0 hl h (k - 1) (i + 1) d n (by omega) (by omega) (by omega) (by omega) hd
        refine ⟨⟨by omega, by omega⟩, by omega, by omega, by omega, rFind_law _ _ _ (by have := kp_len hI; omega) ?_⟩
        refine br_any ?_ (br_any ⟨by omega, by omega, text_law _ _ fun s1 => text_law _ _ fun s2 => text_law _ _ fun s3 => make_j57 (fun a b d => r09.Make.l3 K0 n a b d) l c i _ _ (by omega) hI (wrapB _) ih⟩ ⟨by omega, by omega, br_any (make_j57 (fun a b d => r09.Make.l3 K0 n a b d) l c i _ _ (by omega) hI (wrapB _) ih) (make_j57 (fun a b d => r09.Make.l3 K0 n a b d) l c i _ _ (by omega) hI (wrapB _) ih)⟩)
        unfold r09.Make.j187
        rw [wrap_succ i (by omega)]
        exact ih c hI (by omega)
      · rw [decide_eq_false (by omega), br_false]
        exact h c hI (by omega)
    · rw [lt_false (by omega), br_false, br_false]
      exact h c hI (by omega)
theorem make_law (l : List Act) (K : (List Elem) → Prop) (hl : l.length ≤ 1000) (h : ∀ c, Kp c → c.length ≤ 24 → K c) : r09.Make l K :=
  ⟨l.length + 1, make_loop l K hl h l.length 0 [] _ (by omega) (by omega) (by omega) (by simp) kp_nil⟩
end Go.Iw
