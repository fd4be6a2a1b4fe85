/- Plain laws: refs that are made, moved, dropped, on a disk that stops: as a list. -/
import Derived.Test.YtecohedcbnfibaaDoorYM11
namespace Go.Iw
open Go.Iv
set_option linter.unusedVariables false
set_option linter.unusedSimpArgs false
set_option maxRecDepth 100000
set_option maxHeartbeats 4000000

/-! Refs, compared. -/
theorem eqT_u8s : ∀ {xs ys : List Int}, xs.length = ys.length → (List.zipWith (eqT (.int .u8)) xs ys).all id = decide (xs = ys)
  | [], [], _ => rfl
  | x :: r, y :: t, h => by
    have ih := eqT_u8s (xs := r) (ys := t) (by simpa using h)
    show ((eqT (.int .u8) x y) && (List.zipWith (eqT (.int .u8)) r t).all id) = _
    rw [ih]
    have e : eqT (.int .u8) x y = decide (x = y) := by
      show ((x : Int) == y) = _
      rw [Bool.eq_iff_iff, beq_iff_eq, decide_eq_true_iff]
    rw [e, Bool.eq_iff_iff, Bool.and_eq_true, decide_eq_true_iff, decide_eq_true_iff, decide_eq_true_iff]
    simp
theorem ba_beq (x y : ByteArray) : (x == y) = decide (x = y) := by
  obtain ⟨a⟩ := x; obtain ⟨b⟩ := y
  show (a == b) = _
  rw [Bool.eq_iff_iff, beq_iff_eq, decide_eq_true_iff]
  simp
theorem eqT_ref {a b : Ref} (ha : WfR a) (hb : WfR b) : eqT tRef a b = decide (a = b) := by
  have e : eqT tRef a b = ((a.1 == b.1) && ((List.zipWith (eqT (.int .u8)) a.2.1 b.2.1).all id && ((a.2.2.1 == b.2.2.1) && true))) := rfl
  rw [e, eqT_u8s (by rw [ha.len, hb.len]), Bool.eq_iff_iff, Bool.and_eq_true, Bool.and_eq_true, Bool.and_true, ba_beq, beq_iff_eq, decide_eq_true_iff, decide_eq_true_iff, decide_eq_true_iff]
  constructor
  · rintro ⟨h1, h2, h3⟩
    obtain ⟨a1, a2, a3, a4⟩ := a
    obtain ⟨b1, b2, b3, b4⟩ := b
    simp at h1 h2 h3
    rw [h1, h2, h3]
  · rintro rfl; exact ⟨rfl, rfl, rfl⟩
theorem same_loop (a b : List Ref) (hl : a.length = b.length) (hs : a.length < 1000000) (ha : ∀ r ∈ a, WfR r) (hb : ∀ r ∈ b, WfR r) (K : Bool → Prop) (h1 : a = b → K true) (h0 : a ≠ b → K false) :
    ∀ (m i : Nat), i + m = a.length → a.take i = b.take i → law08.same.l4 K (K true) (m + 1) a b (i : Int) := by
  intro m
  induction m with
  | zero =>
    intro i hi ht
    rw [law08.same.l4]
    rw [lt_false (by omega), br_false]
    rw [List.take_of_length_le (by omega), List.take_of_length_le (by omega)] at ht
    exact h1 ht
  | succ m ih =>
    intro i hi ht
    have la : i < a.length := by omega
    have lb : i < b.length := by omega
    rw [law08.same.l4]
    rw [lt_true la, br_true, ix_nat _ _ _ la, ix_nat _ _ _ lb, eqT_ref (ha _ (List.getElem_mem la)) (hb _ (List.getElem_mem lb))]
    refine ⟨⟨by omega, by omega⟩, ⟨by omega, by omega⟩, ?_⟩
    by_cases e : a[i] = b[i]
    · rw [decide_eq_true e, Bool.not_true, br_false, wrap_succ i (by omega)]
      refine ih (i + 1) (by omega) ?_
      rw [List.take_succ_eq_append_getElem la, List.take_succ_eq_append_getElem lb, ht, e]
    · rw [decide_eq_false e, Bool.not_false, br_true]
      refine h0 fun e2 => e ?_
      subst e2; rfl
theorem same_s {a b : List Ref} (ha : ∀ r ∈ a, WfR r) (hb : ∀ r ∈ b, WfR r) (hs : a.length < 1000000) (hs2 : b.length < 1000000) {K : Bool → Prop} (h1 : a = b → K true) (h0 : a ≠ b → K false) : law08.same a b K := by
  unfold law08.same
  by_cases hl : a.length = b.length
  · have e : ((((List.length a) : Nat) : Int) != (((List.length b) : Nat) : Int)) = false := by rw [hl]; simp
    rw [e, br_false]
    exact ⟨a.length + 1, same_loop a b hl hs ha hb K h1 h0 a.length 0 (by omega) rfl⟩
  · have e : ((((List.length a) : Nat) : Int) != (((List.length b) : Nat) : Int)) = true := by rw [bne_iff_ne]; omega
    rw [e, br_true]
    exact h0 fun e => hl (by rw [e])

/-! A table's refs as a list. -/
structure Mod (M l : List Ref) : Prop where
  srt : Sort1 M
  perm : M.Perm (liveR l)
theorem live_mem {l : List Ref} {r : Ref} : r ∈ liveR l ↔ r ∈ l ∧ r.1 ≠ noStr := by
  unfold liveR
  rw [List.mem_filter]
  simp
theorem Mod.mem {M l : List Ref} (h : Mod M l) {r : Ref} : r ∈ M ↔ r ∈ l ∧ r.1 ≠ noStr := by rw [h.perm.mem_iff, live_mem]
theorem TabL.mem_get {l : List Ref} (h : TabL l) {r : Ref} (hr : r ∈ l) : ∃ k, k < 12 ∧ l.getD k rZ = r := by
  obtain ⟨k, hk, e⟩ := List.getElem_of_mem hr
  have := h.len
  exact ⟨k, by omega, by rw [getD_getElem hk, e]⟩
theorem TabL.get_mem {l : List Ref} (h : TabL l) {k : Nat} (hk : k < 12) : l.getD k rZ ∈ l := by
  have := h.len
  rw [getD_getElem (by omega)]; exact List.getElem_mem _
theorem TabL.name_inj {l : List Ref} (h : TabL l) {a b : Ref} (ha : a ∈ l) (hb : b ∈ l) (hn : a.1 ≠ noStr) (e : a.1 = b.1) : a = b := by
  obtain ⟨i, hi, rfl⟩ := h.mem_get ha
  obtain ⟨k, hk, rfl⟩ := h.mem_get hb
  rcases Nat.decEq i k with e2 | e2
  · exact (h.dist i k hi hk e2 hn e).elim
  · rw [e2]
theorem TabL.wf {l : List Ref} (h : TabL l) {r : Ref} (hr : r ∈ l) : WfR r := by
  obtain ⟨k, hk, rfl⟩ := h.mem_get hr
  exact (h.good k hk).1
theorem Mod.wf {M l : List Ref} (h : Mod M l) (hl : TabL l) : ∀ r ∈ M, WfR r := fun r hr => hl.wf (h.mem.1 hr).1
theorem Mod.len {M l : List Ref} (h : Mod M l) (hl : TabL l) : M.length ≤ 12 := by
  rw [h.perm.length_eq]
  exact Nat.le_trans (List.length_filter_le _ _) (by rw [hl.len]; exact Nat.le_refl _)
theorem Mod.uniq {M L l : List Ref} (h : Mod M l) (hl : TabL l) (hp : L.Perm (liveR l)) (hs : SortR L) : L = M := by
  refine List.Perm.eq_of_pairwise (le := fun a b : Ref => cmpN a.1 b.1 ≤ 0) (fun a b ha hb h1 h2 => ?_) hs h.srt.weak (hp.trans h.perm.symm)
  have ha' := live_mem.1 (hp.mem_iff.1 ha)
  have hb' := h.mem.1 hb
  have h3 := cmpB_swap a.1.data.toList b.1.data.toList
  have h4 : cmpB a.1.data.toList b.1.data.toList ≤ 0 := h1
  have h5 : cmpB b.1.data.toList a.1.data.toList ≤ 0 := h2
  exact hl.name_inj ha'.1 hb'.1 ha'.2 (cmpN_eq (show cmpB _ _ = 0 by omega))
theorem Sort1.name {M : List Ref} (h : Sort1 M) {i k : Nat} (hi : i < M.length) (hk : k < M.length) (e : M[i].1 = M[k].1) : i = k := by
  have lt : ∀ (a b : Nat) (ha : a < M.length) (hb : b < M.length), a < b → M[a].1 = M[b].1 → False := fun a b ha hb hab e => by
    have := List.pairwise_iff_getElem.1 h a b ha hb hab
    rw [e] at this
    have h2 := cmpB_self M[b].1.data.toList
    have h3 : cmpB M[b].1.data.toList M[b].1.data.toList < 0 := this
    omega
  rcases Nat.lt_trichotomy i k with h1 | h1 | h1
  · exact (lt i k hi hk h1 e).elim
  · exact h1
  · exact (lt k i hk hi h1 e.symm).elim
theorem split_at {l : List Ref} {k : Nat} (hk : k < l.length) : ∃ A B, l = A ++ l[k] :: B ∧ A.length = k ∧ ∀ r, l.set k r = A ++ r :: B := by
  refine ⟨l.take k, l.drop (k + 1), ?_, by rw [List.length_take]; omega, fun r => ?_⟩
  · rw [List.getElem_cons_drop, List.take_append_drop]
  · rw [List.set_eq_take_append_cons_drop, if_pos hk]
theorem live_split {A B : List Ref} {x : Ref} : liveR (A ++ x :: B) = liveR A ++ ((if x.1 = noStr then [] else [x]) ++ liveR B) := by
  unfold liveR
  rw [List.filter_append, List.filter_cons]
  by_cases e : x.1 = noStr <;> simp [e]
theorem Mod.make {M l : List Ref} (h : Mod M l) (hl : TabL l) {i : Nat} (hi : i < 12) (hz : (l.getD i rZ).1 = noStr) {r : Ref} (hr : r.1 ≠ noStr) {k : Nat} (hk : k ≤ M.length) (h1 : ∀ a ∈ M.take k, cmpN a.1 r.1 < 0) (h2 : ∀ a ∈ M.drop k, cmpN r.1 a.1 < 0) : Mod ((M.take k ++ [r]) ++ M.drop k) (l.set i r) := by
  have hlen := hl.len
  obtain ⟨A, B, e1, e2, e3⟩ := split_at (l := l) (k := i) (by omega)
  have hx : (l[i]'(by omega)).1 = noStr := by rw [getD_getElem (by omega)] at hz; exact hz
  have hp := h.perm
  rw [e1, live_split, if_pos hx, List.nil_append] at hp
  refine ⟨?_, ?_⟩
  · have hs := h.srt
    rw [← List.take_append_drop k M] at hs
    rw [Sort1, List.pairwise_append] at hs
    rw [Sort1, List.append_assoc, List.pairwise_append]
    refine ⟨hs.1, List.pairwise_cons.2 ⟨h2, hs.2.1⟩, fun a ha b hb => ?_⟩
    rcases List.mem_cons.1 hb with rfl | hb
    · exact h1 a ha
    · exact hs.2.2 a ha b hb
  · rw [e3, live_split, if_neg hr, List.append_assoc]
    have p1 : (M.take k ++ ([r] ++ M.drop k)).Perm (r :: (M.take k ++ M.drop k)) := List.perm_middle
    rw [List.take_append_drop] at p1
    have p2 : (liveR A ++ ([r] ++ liveR B)).Perm (r :: (liveR A ++ liveR B)) := List.perm_middle
    exact p1.trans ((List.Perm.cons r hp).trans p2.symm)
theorem Mod.at {M l : List Ref} (h : Mod M l) (hl : TabL l) {q k : Nat} (hq : q < M.length) (hk : k < 12) (e : (l.getD k rZ).1 = M[q].1) : l.getD k rZ = M[q] := by
  have hm := h.mem.1 (List.getElem_mem hq)
  exact hl.name_inj (hl.get_mem hk) hm.1 (by rw [e]; exact hm.2) e
theorem Mod.swap {M l : List Ref} (h : Mod M l) (hl : TabL l) {q k : Nat} (hq : q < M.length) (hk : k < 12) (e : (l.getD k rZ).1 = M[q].1) {r : Ref} (hr : r.1 = M[q].1) : Mod (M.set q r) (l.set k r) := by
  have hlen := hl.len
  have hnn := (h.mem.1 (List.getElem_mem hq)).2
  have hat := h.at hl hq hk e
  obtain ⟨A, B, e1, e2, e3⟩ := split_at (l := l) (k := k) (by omega)
  obtain ⟨P, Q, f1, f2, f3⟩ := split_at (l := M) (k := q) hq
  have hx : (l[k]'(by omega)) = M[q] := by rw [getD_getElem (by omega)] at hat; exact hat
  have hp := h.perm
  rw [e1, live_split, hx, if_neg hnn] at hp
  have hp2 : (P ++ Q).Perm (liveR A ++ liveR B) := List.perm_inv_core (a := M[q]) (by rw [← f1]; exact hp)
  refine ⟨?_, ?_⟩
  · have hs := h.srt
    rw [f3]
    rw [f1, Sort1, List.pairwise_append, List.pairwise_cons] at hs
    rw [Sort1, List.pairwise_append, List.pairwise_cons]
    refine ⟨hs.1, ⟨fun b hb => by rw [hr]; exact hs.2.1.1 b hb, hs.2.1.2⟩, fun a ha b hb => ?_⟩
    rcases List.mem_cons.1 hb with rfl | hb
    · rw [hr]; exact hs.2.2 a ha _ (List.mem_cons_self ..)
    · exact hs.2.2 a ha b (List.mem_cons_of_mem _ hb)
  · rw [e3, f3, live_split, if_neg (by rw [hr]; exact hnn)]
    exact (List.perm_middle (a := r)).trans ((List.Perm.cons r hp2).trans (List.perm_middle (a := r) (l₁ := liveR A) (l₂ := liveR B)).symm)
theorem Mod.gone {M l : List Ref} (h : Mod M l) (hl : TabL l) {q k : Nat} (hq : q < M.length) (hk : k < 12) (e : (l.getD k rZ).1 = M[q].1) : Mod (M.take q ++ M.drop (q + 1)) (l.set k rZ) := by
  have hlen := hl.len
  have hnn := (h.mem.1 (List.getElem_mem hq)).2
  have hat := h.at hl hq hk e
  obtain ⟨A, B, e1, e2, e3⟩ := split_at (l := l) (k := k) (by omega)
  have f1 : M = M.take q ++ M[q] :: M.drop (q + 1) := by rw [List.getElem_cons_drop, List.take_append_drop]
  have hx : (l[k]'(by omega)) = M[q] := by rw [getD_getElem (by omega)] at hat; exact hat
  have hp := h.perm
  rw [e1, live_split, hx, if_neg hnn] at hp
  have hp2 : (M.take q ++ M.drop (q + 1)).Perm (liveR A ++ liveR B) := List.perm_inv_core (a := M[q]) (by rw [← f1]; exact hp)
  refine ⟨?_, ?_⟩
  · have hs := h.srt
    rw [f1, Sort1, List.pairwise_append, List.pairwise_cons] at hs
    rw [Sort1, List.pairwise_append]
    exact ⟨hs.1, hs.2.1.2, fun a ha b hb => hs.2.2 a ha b (List.mem_cons_of_mem _ hb)⟩
  · rw [e3, live_split, if_pos rfl, List.nil_append]
    exact hp2

/-! The loops. -/
section
variable {K0 : Bool → Prop}
theorem find_l16 (acts : List Act) (M : List Ref) (i : Int) (nm : ByteArray) (d : DiskH) (t : TableH) (j : JournalH) (a : Act) (s : List (List Int)) (w : List write) (hM : M.length ≤ 12) (KK : (List Act) → (List Ref) → Int → ByteArray → Int → DiskH → TableH → JournalH → Act → (List (List Int)) → (List write) → Prop)
    (hn : (∀ q (hq : q < M.length), M[q].1 ≠ nm) → KK acts M i nm (-1) d t j a s w) (hy : ∀ q (hq : q < M.length), M[q].1 = nm → KK acts M i nm (q : Int) d t j a s w) :
    ∀ (m k : Nat) (at_ : Int), k + m = M.length → ((at_ = -1 ∧ ∀ q (hq : q < M.length), q < k → M[q].1 ≠ nm) ∨ ∃ q, ∃ hq : q < M.length, at_ = (q : Int) ∧ M[q].1 = nm) → law08.LabelPlays.l16 KK (m + 1) acts M i nm at_ (k : Int) d t j a s w := by
  intro m
  induction m with
  | zero =>
    intro k at_ hk h
    rw [law08.LabelPlays.l16]
    rw [lt_false (by omega), br_false]
    rcases h with ⟨e, h⟩ | ⟨q, hq, e, h⟩
    · rw [e]; exact hn fun q hq => h q hq (by omega)
    · rw [e]; exact hy q hq h
  | succ m ih =>
    intro k at_ hk h
    have hlt : k < M.length := by omega
    rw [law08.LabelPlays.l16]
    rw [lt_true hlt, br_true, ix_nat _ _ _ hlt, beq_str]
    refine ⟨⟨by omega, by omega⟩, ?_⟩
    unfold law08.LabelPlays.j163
    rw [wrap_succ k (by omega)]
    by_cases e : M[k].1 = nm
    · rw [decide_eq_true e, br_true]
      exact ih (k + 1) _ (by omega) (.inr ⟨k, hlt, rfl, e⟩)
    · rw [decide_eq_false e, br_false]
      refine ih (k + 1) _ (by omega) (h.imp (fun ⟨e1, h1⟩ => ⟨e1, fun q hq hqk => ?_⟩) id)
      by_cases hqk2 : q = k
      · subst hqk2; exact e
      · exact h1 q hq (by omega)
theorem find_l80 (acts : List Act) (M : List Ref) (i : Int) (nm : ByteArray) (f : Int) (r : Ref) (d : DiskH) (t : TableH) (j : JournalH) (s : List (List Int)) (w : List write) (hM : M.length ≤ 12) (KK : (List Act) → (List Ref) → Int → Int → Ref → Ref → (List (List Int)) → (List write) → TableH → JournalH → DiskH → Prop)
    (hn : (∀ q (hq : q < M.length), M[q].1 ≠ nm) → KK acts M i f r rZ s w t j d) (hy : ∀ q (hq : q < M.length), M[q].1 = nm → KK acts M i f r M[q] s w t j d) :
    ∀ (m k : Nat) (th : Ref), k + m = M.length → ((th = rZ ∧ ∀ q (hq : q < M.length), q < k → M[q].1 ≠ nm) ∨ ∃ q, ∃ hq : q < M.length, th = M[q] ∧ M[q].1 = nm) → law08.LabelPlays.l80 KK (m + 1) acts M i nm f (k : Int) r th s w t j d := by
  intro m
  induction m with
  | zero =>
    intro k th hk h
    rw [law08.LabelPlays.l80]
    rw [lt_false (by omega), br_false]
    rcases h with ⟨e, h⟩ | ⟨q, hq, e, h⟩
    · rw [e]; exact hn fun q hq => h q hq (by omega)
    · rw [e]; exact hy q hq h
  | succ m ih =>
    intro k th hk h
    have hlt : k < M.length := by omega
    rw [law08.LabelPlays.l80]
    rw [lt_true hlt, br_true, ix_nat _ _ _ hlt, beq_str]
    refine ⟨⟨by omega, by omega⟩, ?_⟩
    unfold law08.LabelPlays.j675
    rw [wrap_succ k (by omega)]
    by_cases e : M[k].1 = nm
    · rw [decide_eq_true e, br_true]
      exact ⟨⟨by omega, by omega⟩, ih (k + 1) _ (by omega) (.inr ⟨k, hlt, rfl, e⟩)⟩
    · rw [decide_eq_false e, br_false]
      refine ih (k + 1) _ (by omega) (h.imp (fun ⟨e1, h1⟩ => ⟨e1, fun q hq hqk => ?_⟩) id)
      by_cases hqk2 : q = k
      · subst hqk2; exact e
      · exact h1 q hq (by omega)
theorem find_l27 (acts : List Act) (M : List Ref) (i : Int) (nm : ByteArray) (want e : Int) (r : Ref) (d : DiskH) (t : TableH) (j : JournalH) (a : Act) (s : List (List Int)) (w : List write) (hM : M.length ≤ 12) (hs : Sort1 M) (KK : (List Act) → (List Ref) → Int → ByteArray → Int → Int → Int → (List (List Int)) → (List write) → TableH → JournalH → DiskH → Act → Ref → Prop)
    (hy : ∀ k, k ≤ M.length → (∀ x ∈ M.take k, cmpN x.1 nm < 0) → (∀ x ∈ M.drop k, 0 ≤ cmpN x.1 nm) → KK acts M i nm want e (k : Int) s w t j d a r) :
    ∀ (m k : Nat), k + m = M.length → (∀ x ∈ M.take k, cmpN x.1 nm < 0) → law08.LabelPlays.l27 KK (m + 1) acts M i nm want e (k : Int) s w t j d a r := by
  intro m
  induction m with
  | zero =>
    intro k hk h
    rw [law08.LabelPlays.l27]
    rw [lt_false (by omega), br_false]
    unfold law08.LabelPlays.j56
    rw [br_false]
    refine hy k (by omega) h fun x hx => ?_
    rw [List.drop_eq_nil_of_le (by omega)] at hx; cases hx
  | succ m ih =>
    intro k hk h
    have hlt : k < M.length := by omega
    rw [law08.LabelPlays.l27]
    rw [lt_true hlt, br_true, ix_nat _ _ _ hlt, ByteArray.toList_eq, ByteArray.toList_eq, cmpB_less]
    refine ⟨⟨by omega, by omega⟩, ?_⟩
    unfold law08.LabelPlays.j56
    by_cases e : cmpN M[k].1 nm < 0
    · rw [decide_eq_true e, br_true, wrap_succ k (by omega)]
      refine ih (k + 1) (by omega) fun x hx => ?_
      rw [List.take_succ_eq_append_getElem hlt] at hx
      rcases List.mem_append.1 hx with hx | hx
      · exact h x hx
      · rw [List.mem_singleton.1 hx]; exact e
    · rw [decide_eq_false e, br_false]
      refine hy k (by omega) h fun x hx => ?_
      rw [List.drop_eq_getElem_cons hlt] at hx
      have e' : ¬ cmpB M[k].1.data.toList nm.data.toList < 0 := e
      rcases List.mem_cons.1 hx with rfl | hx
      · exact Int.not_lt.1 e
      · -- behind it all are greater
        have h1 : cmpN M[k].1 x.1 < 0 := by
          have := hs
          rw [← List.take_append_drop k M, Sort1, List.pairwise_append, List.drop_eq_getElem_cons hlt, List.pairwise_cons] at this
          exact this.2.1.1 x hx
        apply Int.not_lt.1
        intro h2
        have h3 : cmpB M[k].1.data.toList x.1.data.toList ≤ 0 := Int.le_of_lt h1
        have h4 : cmpB x.1.data.toList nm.data.toList ≤ 0 := Int.le_of_lt h2
        have h5 := cmpB_trans _ _ _ h3 h4
        have h6 : cmpB M[k].1.data.toList nm.data.toList = 0 := by omega
        have h7 := cmpB_zero _ _ h6
        have h8 : cmpB x.1.data.toList nm.data.toList < 0 := h2
        rw [← h7] at h8
        have h9 := cmpB_swap x.1.data.toList M[k].1.data.toList
        have h10 : cmpB M[k].1.data.toList x.1.data.toList < 0 := h1
        omega

/-! One round's end: all is told, and the act's name is found. -/
variable {K1 : (List Act) → (List Ref) → Int → DiskH → TableH → JournalH → (List (List Int)) → (List write) → Prop}
variable {N : Nat} {C : List (List Int)} {l : List Ref} {s : List (List Int)} {w : List write} {j : JournalH} {d : DiskH}
theorem eqT_boolS (a b : Bool) : eqT .bool a b = (a == b) := eqT_bool a b
theorem round_end {acts : List Act} {M : List Ref} {i : Nat} (hi : i < 1000000) (nm : ByteArray) (ht : Tab N C l s w j d) (hm : Mod M l) (h : K1 acts M ((i + 1 : Nat) : Int) d (mkT l) j s w) : law08.LabelPlays.j571 K0 K1 acts M (i : Int) nm s w (mkT l) j d := by
  unfold law08.LabelPlays.j571
  have hMl := hm.len ht.tab
  refine Tall ht.tab.len fun L hp hs => ?_
  have eL := hm.uniq ht.tab hp hs
  subst eL
  refine same_s (hm.wf ht.tab) (hm.wf ht.tab) (by omega) (by omega) (fun _ => ?_) (fun hne => absurd rfl hne)
  rw [Bool.not_true, br_false]
  have fin : law08.LabelPlays.j170 K0 K1 acts L (i : Int) false s w (mkT l) j d := by
    unfold law08.LabelPlays.j170 law08.LabelPlays.j1383
    rw [br_false, wrap_succ i (by omega)]
    exact h
  refine Tget (x := (_, (l, ()))) ht.tab (fun hno => ?_) (fun hn k hk e => ?_)
  · have nobody : ∀ q (hq : q < L.length), L[q].1 ≠ nm := fun q hq e => by
      have hmem := hm.mem.1 (List.getElem_mem hq)
      rcases hno with hno | hno
      · exact hmem.2 (by rw [e, hno])
      · obtain ⟨k, hk, e2⟩ := ht.tab.mem_get hmem.1
        exact hno k hk (by rw [show ((l.getD k rZ)) = L[q] from e2]; exact e)
    refine ⟨L.length + 1, find_l80 acts L (i : Int) nm 2 rZ d (mkT l) j s w hMl _ (fun _ => ?_) (fun q hq e => absurd e (nobody q hq)) L.length 0 rZ (by omega) (.inl ⟨rfl, fun q hq h0 => absurd h0 (by omega)⟩)⟩
    rw [eqT_ref wfZ wfZ, decide_eq_true rfl, Bool.not_true, br_false, beq_str, eqT_boolS]
    exact fin
  · have hkr : l.getD k rZ ∈ l := ht.tab.get_mem hk
    have e' : (l.getD k rZ).1 = nm := e
    have hin : l.getD k rZ ∈ L := hm.mem.2 ⟨hkr, by rw [e']; exact hn⟩
    obtain ⟨q0, hq0, eq0⟩ := List.getElem_of_mem hin
    show ∃ n, law08.LabelPlays.l80 _ n acts L (i : Int) nm 0 0 (l.getD k rZ) _ s w _ _ _
    refine ⟨L.length + 1, find_l80 acts L (i : Int) nm 0 (l.getD k rZ) d (mkT l) j s w hMl _ (fun hno => absurd (by rw [eq0]; exact e') (hno q0 hq0)) (fun q hq e2 => ?_) L.length 0 rZ (by omega) (.inl ⟨rfl, fun q hq h0 => absurd h0 (by omega)⟩)⟩
    have hqq : q = q0 := hm.srt.name hq hq0 (by rw [e2, eq0, e'])
    subst hqq
    have hw := hm.wf ht.tab _ (List.getElem_mem hq)
    rw [← eq0, eqT_ref hw hw, decide_eq_true rfl, Bool.not_true, br_false, beq_str, eqT_boolS]
    have hnn : L[q].1 ≠ noStr := (hm.mem.1 (List.getElem_mem hq)).2
    rw [decide_eq_false hnn]
    exact fin
theorem round_ok {acts : List Act} {M M' : List Ref} {i : Nat} (hi : i < 1000000) (nm : ByteArray) (a : Act) {e : Int} (he : e ≠ 9) (ht : Tab N C l s w j d) (hm : Mod (if e = 0 then M' else M) l) (h : K1 acts (if e = 0 then M' else M) ((i + 1 : Nat) : Int) d (mkT l) j s w) : law08.LabelPlays.j663 K0 K1 acts M (i : Int) nm e e s w (mkT l) j d a M' := by
  unfold law08.LabelPlays.j663
  have e9 : (e == (9 : Int)) = false := by rw [Bool.eq_false_iff]; intro h; exact he (by simpa using h)
  rw [e9, br_false]
  unfold law08.LabelPlays.j122
  have eb : (e != e) = false := by simp
  rw [br_false, eb, br_false]
  by_cases e0 : e = 0
  · subst e0
    exact round_end hi nm ht hm h
  · have : (e == (0 : Int)) = false := by simpa using e0
    rw [this, br_false]
    rw [if_neg e0] at hm h
    exact round_end hi nm ht hm h
theorem round_stop {acts : List Act} {M M' l' : List Ref} {C' : List (List Int)} {i : Nat} (hi : i < 1000000) (hN : 1 ≤ N) (nm : ByteArray) (a : Act) (ha : a.2.2.2.2.2.1.length < 9223372036854775807) (hC : 61 ≤ C.length) (hC' : 61 ≤ C'.length) (hst : Stop N C C' s w j d)
    (hl : TabL l) (ht : Tied C l) (hm : Mod M l) (hl' : TabL l') (ht' : Tied C' l') (hm' : Mod M' l')
    (h1 : ∀ s' w' j' d', Tab N C l s' w' j' d' → K1 acts M ((i + 1 : Nat) : Int) d' (mkT l) j' s' w') (h2 : ∀ s' w' j' d', Tab N C' l' s' w' j' d' → K1 acts M' ((i + 1 : Nat) : Int) d' (mkT l') j' s' w') (t : TableH) :
    law08.LabelPlays.j663 K0 K1 acts M (i : Int) nm 0 9 s w t j d a M' := by
  unfold law08.LabelPlays.j663
  rw [show ((9 : Int) == (9 : Int)) = true from rfl, br_true]
  unfold law08.LabelPlays.j122
  rw [show ((0 : Int) == (0 : Int)) = true from rfl, br_true]
  have hML := hm.len hl
  refine hst.crash ha fun Cx s1 w1 d1 hc hsh hd1 hlen => ?_
  -- what is there
  have go : ∀ (Cx : List (List Int)) (lx Mx : List Ref), 61 ≤ Cx.length → TabL lx → Tied Cx lx → Mod Mx lx → Shut N Cx s1 w1 d1 → (∀ s' w' j' d', Tab N Cx lx s' w' j' d' → (Mx = M → K1 acts M ((i + 1 : Nat) : Int) d' (mkT lx) j' s' w') ∧ (Mx ≠ M → Mx = M' ∧ K1 acts M' ((i + 1 : Nat) : Int) d' (mkT lx) j' s' w')) → journal.Open d1 s1 w1 (fun r1_55 ot7_56 ot9_57 ot1000_58 ot1001_59 => (br (r1_55 != (0 : Int)) (K0 false) (label.Open ot1001_59 ot1000_58 ot7_56 ot9_57 (fun r1_60 ot10_61 ot12_62 ot1000_63 ot1001_64 ot1002_65 => (br (r1_60 != (0 : Int)) (K0 false) (label.Table_All ot1002_65 ot1000_63 ot1001_64 ot10_61 ot12_62 (fun ot6_66 ot7_67 ot1000_68 ot1001_69 ot1002_70 ot1003_71 => (law08.same ot1003_71 M (fun r_72 => (br (!r_72) (law08.LabelPlays.j571 K0 K1 acts M' (i : Int) nm ot6_66 ot7_67 ot1000_68 ot1001_69 ot1002_70) (law08.LabelPlays.j571 K0 K1 acts M (i : Int) nm ot6_66 ot7_67 ot1000_68 ot1001_69 ot1002_70)))))))) (fun r1_169 ot10_170 ot12_171 ot1000_172 ot1001_173 => (br (r1_169 != (0 : Int)) (K0 false) (label.Table_All_n (fun r_174 => (law08.same r_174 M (fun r_175 => (br (!r_175) False False)))))))))) (fun r1_176 ot7_177 ot9_178 ot1000_179 => (br (r1_176 != (0 : Int)) (K0 false) (K0 false))) := by
    intro Cx lx Mx hCx hlx htx hmx hsx hk
    refine hsx.reopen hN hd1 hCx hlx htx fun s2 w2 j2 d2 hT _ => ?_
    rw [ite_eq0, br_false]
    refine hT.open_tab ?_
    rw [ite_eq0, br_false]
    refine Tall hlx.len fun L hp hs => ?_
    have eL := hmx.uniq hlx hp hs
    subst eL
    have hLl := hmx.len hlx
    obtain ⟨ka, kb⟩ := hk s2 w2 j2 d2 hT
    refine same_s (hmx.wf hlx) (hm.wf hl) (by omega) (by omega) (fun e => ?_) (fun e => ?_)
    · rw [Bool.not_true, br_false]
      have := ka e
      rw [e] at hmx
      exact round_end hi nm hT hmx this
    · rw [Bool.not_false, br_true]
      obtain ⟨e2, k2⟩ := kb e
      rw [e2] at hmx
      exact round_end hi nm hT hmx k2
  rcases hc with rfl | rfl
  · exact go Cx l M hC hl ht hm hsh fun s' w' j' d' hT => ⟨fun _ => h1 s' w' j' d' hT, fun e => absurd rfl e⟩
  · exact go Cx l' M' hC' hl' ht' hm' hsh fun s' w' j' d' hT => ⟨fun e => by
      have := h2 s' w' j' d' hT
      rw [e] at this
      exact this, fun _ => ⟨rfl, h2 s' w' j' d' hT⟩⟩
end
end Go.Iw
