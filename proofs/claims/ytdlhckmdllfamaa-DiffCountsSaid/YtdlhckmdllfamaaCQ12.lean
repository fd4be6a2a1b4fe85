/- Plain laws: charts changed by numbers. -/
import Derived.Test.YtdlhckmdllfamaaCQ11
namespace Go.Iw
open Go.Iv
set_option linter.unusedVariables false
set_option linter.unusedSimpArgs false

/-- An act's numbers. -/
def ActOk (x : Act) : Prop := 0 ≤ x.2.1 ∧ x.2.1 ≤ 255
theorem change_j83 (K0 : (List Elem) → (List Act) → Int → Prop) (l : List Act) (c d : List Elem) (i : Nat) (hi : i ≤ 1000) (hc : Kp c) (hd : AllB d) (hdl : d.length ≤ 1000) (h : ∀ d, Kp d → K0 d l ((i + 1 : Nat) : Int)) : r09.Change.j83 K0 c l (i : Int) d := by
  unfold r09.Change.j83 r09.Change.j267
  rw [wrap_succ i (by omega)]
  refine check_law _ _ hdl fun r id hr => ?_
  by_cases h0 : r = 0
  · rw [show (r == 0) = true from by simp [h0], br_true]
    exact h _ ⟨hr h0, hd⟩
  · rw [show (r == 0) = false from by simpa using h0, br_false]
    exact h c hc
theorem change_put (K0 : (List Elem) → (List Act) → Int → Prop) (l : List Act) (c : List Elem) (e : Elem) (i : Nat) (hi : i ≤ 1000) (hc : Kp c) (he : BE e) (h : ∀ d, Kp d → K0 d l ((i + 1 : Nat) : Int)) : r09.Put c e (fun r => r09.Change.j83 K0 c l (i : Int) r) := by
  have hl := put_len c e
  have hk := kp_len hc
  exact rPut_law _ _ _ (kp_ris hc) (by omega) (change_j83 K0 l c _ i hi hc (allB_put hc.2 he) (by omega) h)
theorem bytes1' (x : Int) : ((ByteArray.size (ByteArray.mk #[109])) + (ByteArray.size (Go.Iv.bytesOf [x]))) ≤ 9223372036854775807 := by
  have : (Go.Iv.bytesOf [x]).size = 1 := rfl
  rw [this]; decide
theorem change_j14 (K0 : (List Elem) → (List Act) → Int → Prop) (l : List Act) (c : List Elem) (i : Nat) (b : Bool) (x : Act) (hb : b = false → 0 < c.length) (hx : ActOk x) (hi : i ≤ 1000) (hc : Kp c) (h : ∀ d, Kp d → K0 d l ((i + 1 : Nat) : Int)) : r09.Change.j14 K0 c l (i : Int) c b x := by
  have hk := kp_len hc
  have same := change_j83 K0 l c c i hi hc hc.2 (by omega) h
  unfold r09.Change.j14
  cases b with
  | true =>
    rw [br_true]
    refine make_law _ _ (by simp) fun r hr hrl => ?_
    have skip : r09.Change.j18 K0 c l (i : Int) c r false := by
      unfold r09.Change.j18; rw [br_false]; exact same
    by_cases hp : 0 < r.length
    · rw [decide_eq_true (by omega), br_true]
      refine ⟨⟨by omega, by omega⟩, rFind_law _ _ _ (by omega) ?_⟩
      cases decide (fidx (ix Elem.z r 0).1 c 0 < 0) with
      | false => exact skip
      | true =>
        unfold r09.Change.j18
        rw [br_true]
        refine ⟨⟨by omega, by omega⟩, change_put K0 l c _ i hi hc ?_ h⟩
        have := ix_nat Elem.z r 0 hp
        rw [show ((0 : Nat) : Int) = 0 from rfl] at this
        rw [this]
        exact hr.2 _ (List.getElem_mem hp)
    · rw [decide_eq_false (by omega), br_false]
      exact skip
  | false =>
    rw [br_false]
    have hpos := hb rfl
    have t1 : 0 ≤ Int.tmod x.2.1 (c.length : Int) := Int.tmod_nonneg _ hx.1
    have t2 : Int.tmod x.2.1 (c.length : Int) < (c.length : Int) := Int.tmod_lt_of_pos _ (by omega)
    obtain ⟨hx1, hx2⟩ := hx
    rw [wrap_small (n := x.2.1) (by omega) (by omega)]
    obtain ⟨q, hq⟩ : ∃ q : Nat, Int.tmod x.2.1 (c.length : Int) = (q : Int) := ⟨(Int.tmod x.2.1 (c.length : Int)).toNat, by omega⟩
    rw [hq] at t1 t2 ⊢
    have hlt : q < c.length := by omega
    rw [ix_nat _ _ _ hlt]
    have he : BE c[q] := hc.2 _ (List.getElem_mem hlt)
    have put : ∀ e : Elem, e.2.1 = c[q].2.1 → r09.Put c e (fun r => r09.Change.j83 K0 c l (i : Int) r) := fun e hE => change_put K0 l c e i hi hc (by unfold BE at he ⊢; rw [hE]; exact he) h
    refine ⟨by omega, ⟨t1, t2⟩, by omega, ?_⟩
    refine br_any ?_ (br_any ⟨by omega, put _ rfl⟩ (br_any ⟨by omega, put _ rfl⟩ (br_any ⟨by omega, put _ rfl⟩ (br_any (text_law _ _ fun s => put _ rfl) (named_law _ _ fun b => br_any ⟨by omega, bytes1' _, put _ rfl⟩ (text_law _ _ fun s => put _ rfl))))))
    have hdl := drop_len c c[q].1
    exact rDrop_law _ _ _ (by omega) (change_j83 K0 l c _ i hi hc (fun e he => hc.2 e (mem_dropS.1 he).1) (by omega) h)
theorem change_loop (l : List Act) (K0 : (List Elem) → Prop) (hl : l.length ≤ 1000) (hx : ∀ x : Act, x ∈ l → ActOk x) (h : ∀ c, Kp c → K0 c) : ∀ (k i : Nat) (c : List Elem) (n : Nat), l.length - i ≤ k → k < n → i ≤ 12 → Kp c → r09.Change.l2 K0 n c l (i : Int)
  | k, i, c, 0, hk, hn, hi, hI => by omega
  | k, i, c, n + 1, hk, hn, hi, hI => by
    simp only [r09.Change.l2]
    unfold r09.Change.j6
    by_cases hlt : i < l.length
    · rw [lt_true hlt, br_true]
      by_cases h12 : i < 12
      · rw [decide_eq_true (by omega), br_true, ix_nat _ _ _ hlt]
        have ih : ∀ d, Kp d → r09.Change.l2 K0 n d l ((i + 1 : Nat) : Int) := fun d hd => change_loop l K0 hl hx h (k - 1) (i + 1) d n (by omega) (by omega) (by omega) hd
        have ha := hx _ (List.getElem_mem hlt)
        refine ⟨⟨by omega, by omega⟩, by omega, br_any (change_j14 (fun a b d => r09.Change.l2 K0 n a b d) l c i true _ (fun h => by cases h) ha (by omega) hI ih) (change_j14 (fun a b d => r09.Change.l2 K0 n a b d) l c i _ _ (fun hb => ?_) ha (by omega) hI ih)⟩
        have : ((c.length : Nat) : Int) ≠ 0 := by simpa using hb
        omega
      · rw [decide_eq_false (by omega), br_false]
        exact h c hI
    · rw [lt_false (by omega), br_false, br_false]
      exact h c hI
theorem change_law (c : List Elem) (l : List Act) (K : (List Elem) → Prop) (hl : l.length ≤ 1000) (hx : ∀ x : Act, x ∈ l → ActOk x) (hc : Kp c) (h : ∀ c, Kp c → K c) : r09.Change c l K :=
  ⟨l.length + 1, change_loop l K hl hx h l.length 0 c _ (by omega) (by omega) (by omega) hc⟩
end Go.Iw
