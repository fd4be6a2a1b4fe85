/- Plain specifications: a table of refs. -/
import Derived.Test.YtecohedcbnfibaaDoorYM8
namespace Go.Iw
open Go.Iv
set_option linter.unusedVariables false
set_option linter.unusedSimpArgs false
set_option maxRecDepth 100000

structure TabL (l : List Ref) : Prop where
  len : l.length = 12
  good : ∀ i, i < 12 → GoodR (l.getD i rZ)
  dist : ∀ i k, i < 12 → k < 12 → i ≠ k → (l.getD i rZ).1 ≠ noStr → (l.getD i rZ).1 ≠ (l.getD k rZ).1
def Tied (C : List (List Int)) (l : List Ref) : Prop := ∀ i, i < 12 → C.getD (48 + i) [] = secR (l.getD i rZ)
abbrev mkT (l : List Ref) : TableH := ((), (l, ()))
structure Tab (N : Nat) (C : List (List Int)) (l : List Ref) (s : List (List Int)) (w : List write) (j : JournalH) (d : DiskH) : Prop where
  st : Stab N C s w j d
  tab : TabL l
  tied : Tied C l
  ge : 61 ≤ C.length
theorem getD_getElem {α : Type} {l : List α} {i : Nat} (h : i < l.length) (z : α) : l.getD i z = l[i] := by
  rw [List.getD_eq_getElem?_getD, List.getElem?_eq_getElem h]; rfl
theorem TabL.zero : TabL (List.replicate 12 rZ) := by
  have e : ∀ i, i < 12 → (List.replicate 12 rZ).getD i rZ = rZ := fun i h => by
    rw [getD_getElem (by rw [List.length_replicate]; exact h), List.getElem_replicate]
  exact ⟨rfl, fun i h => by rw [e i h]; exact goodZ, fun i k h _ _ hn => by rw [e i h] at hn; exact (hn rfl).elim⟩
theorem TabL.set {l : List Ref} (h : TabL l) {i : Nat} {r : Ref} (hi : i < 12) (hr : GoodR r) (hd : r.1 ≠ noStr → ∀ k, k < 12 → k ≠ i → (l.getD k rZ).1 ≠ r.1) : TabL (l.set i r) := by
  have e : ∀ k, (l.set i r).getD k rZ = if i = k then r else l.getD k rZ := fun k => by
    rw [set_getD]
    by_cases h2 : i = k
    · rw [if_pos ⟨h2, by rw [h.len]; omega⟩, if_pos h2]
    · rw [if_neg (fun e => h2 e.1), if_neg h2]
  refine ⟨by rw [List.length_set]; exact h.len, fun k hk => ?_, fun a b ha hb hab hn => ?_⟩
  · rw [e]; split
    · exact hr
    · exact h.good k hk
  · rw [e] at hn ⊢
    rw [e]
    by_cases h1 : i = a
    · subst h1
      rw [if_pos rfl] at hn ⊢
      rw [if_neg hab]
      exact fun e2 => hd hn b hb (fun e => hab e.symm) e2.symm
    · rw [if_neg h1] at hn ⊢
      by_cases h2 : i = b
      · subst h2
        rw [if_pos rfl]
        intro e2
        exact hd (by rw [← e2]; exact hn) a ha (fun e => h1 e.symm) e2
      · rw [if_neg h2]; exact h.dist a b ha hb hab hn
theorem Tied.set {C : List (List Int)} {l : List Ref} (h : Tied C l) (hC : 61 ≤ C.length) (hl : l.length = 12) {i : Nat} (hi : i < 12) (r : Ref) : Tied (C.set (48 + i) (secR r)) (l.set i r) := fun k hk => by
  rw [set_getD, set_getD]
  by_cases e : i = k
  · subst e
    rw [if_pos ⟨rfl, by omega⟩, if_pos ⟨rfl, by omega⟩]
  · rw [if_neg (fun e2 => e (by omega)), if_neg (fun e2 => e e2.1)]
    exact h k hk

section
variable {N : Nat} {C C1 C2 : List (List Int)} {l : List Ref} {s : List (List Int)} {w : List write} {j : JournalH} {d : DiskH}
theorem Tfind {x : Table} (hx : TabL x.2.1) {nm : ByteArray} {K : Int → Prop} (h1 : (∀ k, k < 12 → (x.2.1.getD k rZ).1 ≠ nm) → K (-1)) (h0 : ∀ k, k < 12 → (x.2.1.getD k rZ).1 = nm → (∀ k', k' < k → (x.2.1.getD k' rZ).1 ≠ nm) → K (k : Int)) : label.Table_find x nm K := by
  have hl := hx.len
  refine Table_find_s (by omega) ?_
  rcases fIx_cases x.2.1 0 nm with ⟨e, h⟩ | ⟨k, hk, e, h2, h3⟩
  · rw [e]
    exact h1 fun k hk => by rw [getD_getElem (by omega)]; exact h k (by omega)
  · rw [e, Nat.zero_add]
    exact h0 k (by omega) (by rw [getD_getElem hk]; exact h2) fun k' hk' => by rw [getD_getElem (by omega)]; exact h3 k' hk'
theorem Tget {x : Table} (hx : TabL x.2.1) {nm : ByteArray} {K : Ref → Int → Prop} (h2 : (nm = noStr ∨ ∀ k, k < 12 → (x.2.1.getD k rZ).1 ≠ nm) → K rZ 2) (h0 : nm ≠ noStr → ∀ k, k < 12 → (x.2.1.getD k rZ).1 = nm → K (x.2.1.getD k rZ) 0) : label.Table_Get x nm K := by
  unfold label.Table_Get
  rw [beq_str]
  by_cases hn : nm = noStr
  · rw [decide_eq_true hn, br_true]
    unfold label.Table_Get.j4
    rw [br_true]
    exact h2 (.inl hn)
  · rw [decide_eq_false hn, br_false]
    refine Tfind hx (fun hno => ?_) (fun k hk hnm hmin => ?_)
    · rw [lt_int (by decide)]
      unfold label.Table_Get.j4
      rw [br_true]
      exact h2 (.inr hno)
    · rw [nlt_int (by omega)]
      unfold label.Table_Get.j4
      rw [br_false]
      refine Tfind hx (fun hno => absurd hnm (hno k hk)) (fun k2 hk2 hnm2 hmin2 => ?_)
      refine ⟨⟨by omega, by omega⟩, ?_⟩
      have := h0 hn k2 hk2 hnm2
      rw [ix_getD]
      have e : x.2.1.getD k2 Ref.z = x.2.1.getD k2 rZ := getD_any (by rw [hx.len]; exact hk2) _ _
      rw [e]
      exact this
theorem Tab.wr (h : Tab N C l s w j d) (hN : N < 4294967295) {i : Nat} (hi : i < 12) {r : Ref} (hr : GoodR r) (hd : r.1 ≠ noStr → ∀ k, k < 12 → k ≠ i → (l.getD k rZ).1 ≠ r.1)
    {K : Int → (List (List Int)) → (List write) → TableH → JournalH → DiskH → Prop}
    (h0 : ∀ s' w' j' d', Tab (N + 1) (C.set (48 + i) (secR r)) (l.set i r) s' w' j' d' → (dLeft d = -1 → dLeft d' = -1) → K 0 s' w' (mkT (l.set i r)) j' d')
    (h9 : dLeft d ≠ -1 → ∀ s' w' j' d', Stop (N + 1) C (C.set (48 + i) (secR r)) s' w' j' d' → s'.length = s.length → K 9 s' w' (mkT l) j' d') : label.Table_write (i : Int) r (mkT l) j d s w K := by
  unfold label.Table_write
  refine label_pack (good_size hr) hr.1 ?_
  have e48 : IntKind.wrap .i64 ((48 : Int) + (i : Int)) = ((48 + i : Nat) : Int) := by
    rw [wrap_small (by omega) (by omega)]; omega
  have hap : apl [(((48 + i : Nat) : Int), (packR r, ()))] C = C.set (48 + i) (secR r) := by
    show C.set (((48 + i : Nat) : Int)).toNat (padS (packR r)) = _
    rw [Int.toNat_natCast]; rfl
  rw [e48]
  have hge := h.ge
  refine h.st.wr hN (l := [(((48 + i : Nat) : Int), (packR r, ()))]) (by show 1 ≤ 24; decide) (by simp) (fun x hx => ?_) (fun s' w' j' d' hs' hd' => ?_) (fun hl s' w' j' d' hs' hlen => ?_)
  · have hx := List.mem_singleton.1 hx
    subst hx
    exact ⟨by show 0 ≤ ((48 + i : Nat) : Int); omega, by show ((48 + i : Nat) : Int) < _; omega, packR_len r, packR_byt (good_size hr) hr.1⟩
  · rw [hap] at hs'
    rw [ite_eq0, br_false]
    refine ⟨⟨by omega, by omega⟩, by rw [Int.toNat_natCast]; exact hi, ?_⟩
    rw [Int.toNat_natCast]
    exact h0 s' w' j' d' ⟨hs', h.tab.set hi hr hd, h.tied.set hge h.tab.len hi r, by rw [List.length_set]; exact hge⟩ hd'
  · rw [hap] at hs'
    rw [ite_ne0, br_true]
    exact h9 hl s' w' j' d' hs' hlen
def liveR (l : List Ref) : List Ref := l.filter fun r => !decide (r.1 = noStr)
theorem All_loop (l : List Ref) (hl : l.length = 12) (s : List (List Int)) (w : List write) (t : TableH) (j : JournalH) (d : DiskH) (K0 : (List Ref) → TableH → JournalH → DiskH → (List (List Int)) → (List write) → Prop) (h : K0 (liveR l) t j d s w) :
    ∀ (m i : Nat), i + m = 12 → label.Table_All.l5 K0 (m + 1) l (i : Int) (liveR (l.take i)) t j d s w := by
  intro m
  induction m with
  | zero =>
    intro i hi
    have : i = 12 := by omega
    subst this
    rw [label.Table_All.l5]
    rw [nlt_int (by decide), br_false, List.take_of_length_le (by omega)]
    exact h
  | succ m ih =>
    intro i hi
    have hlt : i < l.length := by omega
    rw [label.Table_All.l5]
    rw [lt_int (by omega), br_true, ix_nat _ _ _ hlt, beq_str]
    refine ⟨⟨by omega, by omega⟩, ?_⟩
    have e : liveR (l.take (i + 1)) = liveR (l.take i) ++ (if l[i].1 = noStr then [] else [l[i]]) := by
      unfold liveR
      rw [List.take_succ_eq_append_getElem hlt, List.filter_append]
      congr 1
      by_cases e : l[i].1 = noStr <;> simp [e]
    unfold label.Table_All.j75
    rw [wrap_succ i (by omega)]
    have hle : (liveR (l.take i)).length ≤ 12 := Nat.le_trans (List.length_filter_le _ _) (by rw [List.length_take]; omega)
    by_cases hn : l[i].1 = noStr
    · rw [if_pos hn, List.append_nil] at e
      rw [decide_eq_true hn, Bool.not_true, br_false, ← e]
      exact ih (i + 1) (by omega)
    · rw [if_neg hn] at e
      rw [decide_eq_false hn, Bool.not_false, br_true, ← e]
      refine ⟨⟨by rw [List.length_singleton]; omega, by rw [List.length_singleton]; omega⟩, ih (i + 1) (by omega)⟩
theorem Tall {l : List Ref} (hl : l.length = 12) {K : (List (List Int)) → (List write) → TableH → JournalH → DiskH → (List Ref) → Prop} (h : ∀ L, L.Perm (liveR l) → SortR L → K s w (mkT l) j d L) : label.Table_All (mkT l) j d s w K := by
  unfold label.Table_All
  refine ⟨13, All_loop l hl s w _ j d _ ?_ 12 0 rfl⟩
  exact SortFunc_s (Nat.le_trans (List.length_filter_le _ _) (by omega)) h

/-! Opening. -/
theorem Open_loop (hst : Stab N C s w j d) (hC : 61 ≤ C.length) (K0 : Int → (List (List Int)) → (List write) → JournalH → DiskH → Prop) (K1 : TableH → JournalH → DiskH → (List (List Int)) → (List write) → Prop)
    (h1 : ∀ l, TabL l → Tied C l → K1 (mkT l) j d s w) (h7 : (∀ l, TabL l → ¬ Tied C l) → K0 7 s w j d) :
    ∀ (m i : Nat) (L : List Ref), i + m = 12 → TabL L → (∀ k, k < i → C.getD (48 + k) [] = secR (L.getD k rZ)) → (∀ k, i ≤ k → k < 12 → L.getD k rZ = rZ) →
      label.Open.l5 K0 K1 (m + 1) (i : Int) (mkT L) j d s w := by
  intro m
  induction m with
  | zero =>
    intro i L hi hL ht hz
    have : i = 12 := by omega
    subst this
    rw [label.Open.l5]
    rw [nlt_int (by decide), br_false]
    exact h1 L hL ht
  | succ m ih =>
    intro i L hi hL ht hz
    have hi12 : i < 12 := by omega
    rw [label.Open.l5]
    have e48 : IntKind.wrap .i64 ((48 : Int) + (i : Int)) = ((48 + i : Nat) : Int) := by
      rw [wrap_small (by omega) (by omega)]; omega
    rw [lt_int (by omega), br_true, e48]
    refine hst.read (by omega) ?_
    rw [ite_eq0, br_false]
    have hwf := hst.wf
    have hsec : (C.getD (48 + i) []).length = 64 ∧ Byt (C.getD (48 + i) []) := wf_getD hwf (by omega)
    refine label_unpack hsec.1 hsec.2 (fun r hr e => ?_) (fun hno => ?_)
    · rw [Bool.not_true, br_false, beq_str]
      have goon : (r.1 ≠ noStr → ∀ k, k < 12 → k ≠ i → (L.getD k rZ).1 ≠ r.1) → label.Open.j24 K0 (fun t16 ot15 ot1000 ot1001 ot10 ot12 => (label.Open.l5 K0 K1 (m + 1) t16 ot15 ot1000 ot1001 ot10 ot12)) (i : Int) (i : Int) false r s w j d (mkT L) := fun hd => by
        unfold label.Open.j24
        rw [br_false, wrap_succ i (by omega), Int.toNat_natCast]
        refine ⟨⟨by omega, by omega⟩, hi12, ih (i + 1) (L.set i r) (by omega) (hL.set hi12 hr hd) (fun k hk => ?_) (fun k hk hk2 => ?_)⟩
        · rw [set_getD]
          by_cases e2 : i = k
          · subst e2; rw [if_pos ⟨rfl, by rw [hL.len]; exact hi12⟩]; exact e.symm
          · rw [if_neg (fun e3 => e2 e3.1)]; exact ht k (by omega)
        · rw [set_getD, if_neg (fun e3 => by omega)]; exact hz k (by omega) hk2
      by_cases hn : r.1 = noStr
      · rw [decide_eq_true hn, Bool.not_true, br_false]
        exact goon fun h => (h hn).elim
      · rw [decide_eq_false hn, Bool.not_false, br_true]
        refine Tfind (x := (_, (L, ()))) hL (fun hnone => ?_) (fun k hk hnm _ => ?_)
        · rw [nge_int (by decide)]
          exact goon fun _ k hk _ => hnone k hk
        · rw [ge_int (by omega)]
          unfold label.Open.j24
          rw [br_true]
          refine h7 fun l hl htl => ?_
          have hki : k < i := by
            rcases Nat.lt_or_ge k i with h | h
            · exact h
            · have := hz k h hk
              have hnm' : (L.getD k rZ).1 = r.1 := hnm
              rw [this] at hnm'
              exact (hn hnm'.symm).elim
          have e1 : l.getD k rZ = L.getD k rZ := sec_inj (hl.good k hk) (hL.good k hk) (by rw [← htl k hk, ht k hki])
          have e2 : l.getD i rZ = r := sec_inj (hl.good i hi12) hr (by rw [← htl i hi12, e])
          refine hl.dist i k hi12 hk (by omega) (by rw [e2]; exact hn) ?_
          rw [e1, e2]; exact hnm.symm
    · rw [Bool.not_false, br_true]
      unfold label.Open.j24
      rw [br_true]
      exact h7 fun l hl htl => hno _ (hl.good i hi12) (htl i hi12).symm
theorem Stab.open_tab (hst : Stab N C s w j d) (hC : 61 ≤ C.length) {K0 : Int → (List (List Int)) → (List write) → JournalH → DiskH → TableH → Prop} {K1 : Int → (List (List Int)) → (List write) → JournalH → DiskH → Prop}
    (h0 : ∀ l, Tab N C l s w j d → K0 0 s w j d (mkT l)) (h7 : (∀ l, TabL l → ¬ Tied C l) → K1 7 s w j d) : label.Open j d s w K0 K1 := by
  unfold label.Open
  have hl := hst.len
  obtain ⟨nx, _, _, _, hj⟩ := hst.nx
  have hle := hj.le
  refine Journal_Sectors_s (by show s.length < _; omega) ?_
  show br (decide (((s.length : Nat) : Int) - 49 ≤ (60 : Int))) _ _
  rw [nle_int (by omega), br_false]
  refine ⟨13, Open_loop hst hC _ _ (fun l hl ht => h0 l ⟨hst, hl, ht, hC⟩) h7 12 0 (List.replicate 12 rZ) rfl TabL.zero (fun k hk => absurd hk (by omega)) (fun k _ hk => ?_)⟩
  rw [getD_getElem (by rw [List.length_replicate]; exact hk), List.getElem_replicate]
theorem Shut.reopen (h : Shut N C s w d) (h1 : 1 ≤ N) (hd : dLeft d = -1) (hC : 61 ≤ C.length) {l : List Ref} (hl : TabL l) (ht : Tied C l)
    {K0 : Int → (List (List Int)) → (List write) → DiskH → JournalH → Prop} {K1 : Int → (List (List Int)) → (List write) → DiskH → Prop}
    (h0 : ∀ s' w' j' d', Tab N C l s' w' j' d' → dLeft d' = -1 → K0 0 s' w' d' j') : journal.Open d s w K0 K1 :=
  h.open h1 (fun s' w' j' d' hs' hd' _ => h0 s' w' j' d' ⟨hs', hl, ht, hC⟩ (hd' hd)) (fun hne => absurd hd hne)
theorem tied_unique {l l' : List Ref} (h : TabL l) (h' : TabL l') (t : Tied C l) (t' : Tied C l') : l = l' := by
  apply List.ext_getElem?
  intro i
  have e := h.len
  have e' := h'.len
  by_cases hi : i < 12
  · have := sec_inj (h.good i hi) (h'.good i hi) (by rw [← t i hi, ← t' i hi])
    rw [getD_getElem (by omega), getD_getElem (by omega)] at this
    rw [List.getElem?_eq_getElem (by omega), List.getElem?_eq_getElem (by omega), this]
  · rw [List.getElem?_eq_none (by omega), List.getElem?_eq_none (by omega)]
theorem Tab.open_tab (h : Tab N C l s w j d) {K0 : Int → (List (List Int)) → (List write) → JournalH → DiskH → TableH → Prop} {K1 : Int → (List (List Int)) → (List write) → JournalH → DiskH → Prop}
    (h0 : K0 0 s w j d (mkT l)) : label.Open j d s w K0 K1 :=
  h.st.open_tab h.ge (fun l' h' => by rw [← tied_unique h.tab h'.tab h.tied h'.tied]; exact h0) (fun hno => absurd h.tied (hno l h.tab))

/-! Making, moving, dropping. -/
theorem Tab.make (h : Tab N C l s w j d) (hN : N < 4294967295) {r : Ref} (hr : WfR r) {K : Int → (List (List Int)) → (List write) → TableH → JournalH → DiskH → Prop}
    (h1 : rightB r.1 = false → K 1 s w (mkT l) j d)
    (h3 : rightB r.1 = true → (∃ k, k < 12 ∧ (l.getD k rZ).1 = r.1) → K 3 s w (mkT l) j d)
    (h4 : rightB r.1 = true → (∀ k, k < 12 → (l.getD k rZ).1 ≠ r.1) → (∀ k, k < 12 → (l.getD k rZ).1 ≠ noStr) → K 4 s w (mkT l) j d)
    (h0 : rightB r.1 = true → (∀ k, k < 12 → (l.getD k rZ).1 ≠ r.1) → ∀ i, i < 12 → (l.getD i rZ).1 = noStr → (∀ i', i' < i → (l.getD i' rZ).1 ≠ noStr) → ∀ s' w' j' d', Tab (N + 1) (C.set (48 + i) (secR r)) (l.set i r) s' w' j' d' → (dLeft d = -1 → dLeft d' = -1) → K 0 s' w' (mkT (l.set i r)) j' d')
    (h9 : dLeft d ≠ -1 → rightB r.1 = true → (∀ k, k < 12 → (l.getD k rZ).1 ≠ r.1) → ∀ i, i < 12 → (l.getD i rZ).1 = noStr → ∀ s' w' j' d', Stop (N + 1) C (C.set (48 + i) (secR r)) s' w' j' d' → s'.length = s.length → K 9 s' w' (mkT l) j' d') :
    label.Table_Make r (mkT l) j d s w K := by
  unfold label.Table_Make label.Right
  cases hrt : rightB r.1 with
  | false => rw [Bool.not_false, br_true]; exact h1 hrt
  | true =>
    rw [Bool.not_true, br_false]
    refine Tfind (x := (_, (l, ()))) h.tab (fun hno => ?_) (fun k hk hnm _ => ?_)
    · rw [nge_int (by decide), br_false]
      refine Tfind (x := (_, (l, ()))) h.tab (fun hfull => ?_) (fun i hi hnm hmin => ?_)
      · rw [lt_int (by decide), br_true]
        exact h4 hrt hno hfull
      · rw [nlt_int (by omega), br_false]
        refine Tfind (x := (_, (l, ()))) h.tab (fun hfull => absurd hnm (hfull i hi)) (fun i2 hi2 hnm2 hmin2 => ?_)
        exact h.wr hN hi2 ⟨hr, .inr hrt⟩ (fun _ k hk _ => hno k hk) (fun s' w' j' d' a b => h0 hrt hno i2 hi2 hnm2 hmin2 s' w' j' d' a b) (fun hl s' w' j' d' a b => h9 hl hrt hno i2 hi2 hnm2 s' w' j' d' a b)
    · rw [ge_int (by omega), br_true]
      exact h3 hrt ⟨k, hk, hnm⟩
theorem Tab.move (h : Tab N C l s w j d) (hN : N < 4294967295) {nm : ByteArray} {key : List Int} (hk : key.length = 32 ∧ Byt key) {K : Int → (List (List Int)) → (List write) → TableH → JournalH → DiskH → Prop}
    (h2 : (nm = noStr ∨ ∀ k, k < 12 → (l.getD k rZ).1 ≠ nm) → K 2 s w (mkT l) j d)
    (h13 : nm ≠ noStr → ∀ k, k < 12 → (l.getD k rZ).1 = nm → (l.getD k rZ).2.2.1 = true → K 13 s w (mkT l) j d)
    (h0 : nm ≠ noStr → ∀ k, k < 12 → (l.getD k rZ).1 = nm → (l.getD k rZ).2.2.1 = false → ∀ s' w' j' d', Tab (N + 1) (C.set (48 + k) (secR (nm, (key, (false, ()))))) (l.set k (nm, (key, (false, ())))) s' w' j' d' → (dLeft d = -1 → dLeft d' = -1) → K 0 s' w' (mkT (l.set k (nm, (key, (false, ()))))) j' d')
    (h9 : dLeft d ≠ -1 → nm ≠ noStr → ∀ k, k < 12 → (l.getD k rZ).1 = nm → (l.getD k rZ).2.2.1 = false → ∀ s' w' j' d', Stop (N + 1) C (C.set (48 + k) (secR (nm, (key, (false, ()))))) s' w' j' d' → s'.length = s.length → K 9 s' w' (mkT l) j' d') :
    label.Table_Move nm key (mkT l) j d s w K := by
  unfold label.Table_Move
  refine Tget (x := (_, (l, ()))) h.tab (fun hno => ?_) (fun hn k hk2 hnm => ?_)
  · exact h2 hno
  · show br false _ _
    rw [br_false]
    have hnm' : (l.getD k rZ).1 = nm := hnm
    show br (l.getD k rZ).2.2.1 _ _
    cases hf : (l.getD k rZ).2.2.1 with
    | true => rw [br_true]; exact h13 hn k hk2 hnm' hf
    | false =>
      rw [br_false]
      refine Tfind (x := (_, (l, ()))) h.tab (fun hno => absurd hnm (hno k hk2)) (fun k2 hk3 hnm2 _ => ?_)
      have hnm2' : (l.getD k2 rZ).1 = nm := hnm2
      have hkk : k2 = k := by
        rcases Nat.decEq k2 k with e | e
        · exact (h.tab.dist k2 k hk3 hk2 e (by rw [hnm2']; exact hn) (by rw [hnm2', hnm'])).elim
        · exact e
      subst hkk
      have er : (((l.getD k2 rZ).1, (key, (l.getD k2 rZ).2.2)) : Ref) = (nm, (key, (false, ()))) := by
        rw [hnm']
        have : (l.getD k2 rZ).2.2 = (false, ()) := by rw [← hf]
        rw [this]
      show label.Table_write (k2 : Int) ((l.getD k2 rZ).1, (key, (l.getD k2 rZ).2.2)) _ _ _ _ _ _
      rw [er]
      have hg := (h.tab.good k2 hk3).2
      rw [hnm'] at hg
      have hrt : rightB nm = true := hg.elim (fun e => absurd (by rw [← hnm', e]) hn) id
      refine h.wr hN hk3 ⟨⟨hk.1, hk.2⟩, .inr hrt⟩ (fun _ k' hk' hne e => ?_) (fun s' w' j' d' a b => h0 hn k2 hk3 hnm' hf s' w' j' d' a b) (fun hl s' w' j' d' a b => h9 hl hn k2 hk3 hnm' hf s' w' j' d' a b)
      have e : (l.getD k' rZ).1 = nm := e
      exact h.tab.dist k' k2 hk' hk3 hne (by rw [e]; exact hn) (by rw [e, hnm'])
theorem Tab.drop (h : Tab N C l s w j d) (hN : N < 4294967295) {nm : ByteArray} {K : Int → (List (List Int)) → (List write) → TableH → JournalH → DiskH → Prop}
    (h2 : (nm = noStr ∨ ∀ k, k < 12 → (l.getD k rZ).1 ≠ nm) → K 2 s w (mkT l) j d)
    (h0 : nm ≠ noStr → ∀ k, k < 12 → (l.getD k rZ).1 = nm → ∀ s' w' j' d', Tab (N + 1) (C.set (48 + k) (secR rZ)) (l.set k rZ) s' w' j' d' → (dLeft d = -1 → dLeft d' = -1) → K 0 s' w' (mkT (l.set k rZ)) j' d')
    (h9 : dLeft d ≠ -1 → nm ≠ noStr → ∀ k, k < 12 → (l.getD k rZ).1 = nm → ∀ s' w' j' d', Stop (N + 1) C (C.set (48 + k) (secR rZ)) s' w' j' d' → s'.length = s.length → K 9 s' w' (mkT l) j' d') :
    label.Table_Drop nm (mkT l) j d s w K := by
  unfold label.Table_Drop
  refine Tget (x := (_, (l, ()))) h.tab (fun hno => ?_) (fun hn k hk2 hnm => ?_)
  · exact h2 hno
  · show br false _ _
    rw [br_false]
    refine Tfind (x := (_, (l, ()))) h.tab (fun hno => absurd hnm (hno k hk2)) (fun k2 hk3 hnm2 _ => ?_)
    exact h.wr hN hk3 goodZ (fun hne => absurd rfl hne) (fun s' w' j' d' a b => h0 hn k2 hk3 hnm2 s' w' j' d' a b) (fun hl s' w' j' d' a b => h9 hl hn k2 hk3 hnm2 s' w' j' d' a b)
end

/-! A new disk. -/
theorem minmax_nat (n : Nat) (h : n ≤ 4096) : minInt (maxInt (n : Int) 0) 4096 = (n : Int) := by
  unfold minInt maxInt
  split <;> split <;> omega
theorem New_s {n : Nat} (h : n ≤ 4096) {K : DiskH → (List (List Int)) → (List write) → Prop} (hk : K (mkD (-1) false 0) (List.replicate n (List.replicate 64 0)) []) : disk.New (n : Int) K := by
  unfold disk.New
  rw [minmax_nat n h]
  refine ⟨⟨by omega, by omega, by omega, by rw [Int.toNat_natCast]; omega⟩, ?_⟩
  rw [Int.toNat_natCast]
  exact hk
theorem zeros_getD {n q : Nat} (h : q < n) : (List.replicate n (List.replicate 64 (0 : Int))).getD q [] = List.replicate 64 0 := by
  rw [getD_getElem (by rw [List.length_replicate]; exact h), List.getElem_replicate]
theorem numS_zeros : numS (List.replicate 64 0) = 0 := by decide +kernel
theorem readJ_zeros {n : Nat} (h : 50 ≤ n) : readJ (List.replicate n (List.replicate 64 0)) = [] := by
  unfold readJ
  rw [zeros_getD (by omega), if_pos (.inr numS_zeros)]
theorem shut_new {n : Nat} (h : 50 ≤ n) (h2 : n < 1000000) : Shut 1 (List.replicate (n - 49) (List.replicate 64 0)) (List.replicate n (List.replicate 64 0)) [] (mkD (-1) false 0) := by
  refine ⟨rfl, rfl, ⟨fun p hp => ?_, by rw [List.length_replicate]; exact h, by rw [List.length_replicate]; exact h2, fun i hi => ?_, ?_⟩, ?_⟩
  · rw [(List.mem_replicate.1 hp).2]; exact ⟨by rw [List.length_replicate], Byt.zeros 64⟩
  · rw [zeros_getD (by omega), numS_zeros]; decide
  · rw [readJ_zeros h]; exact fun x hx => by cases hx
  · unfold cont
    rw [readJ_zeros h, List.drop_replicate]; rfl
theorem tied_new {n : Nat} (h : 61 ≤ n) : Tied (List.replicate n (List.replicate 64 0)) (List.replicate 12 rZ) := fun i hi => by
  rw [zeros_getD (by omega), getD_getElem (by rw [List.length_replicate]; exact hi), List.getElem_replicate, secR_z]
end Go.Iw
