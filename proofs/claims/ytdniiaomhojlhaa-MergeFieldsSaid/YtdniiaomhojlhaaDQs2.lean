/- Plain laws, one behind the other. -/
import Derived.Test.YtdniiaomhojlhaaDQs
/- JudgeMerges: the plain law. -/
namespace Go.Iw
open Go.Iv
set_option linter.unusedVariables false
set_option linter.unusedSimpArgs false
set_option linter.unusedSectionVars false

theorem sd_no {c : List Elem} {n : Int} (h : hasN n c = false) : sd c n = (Elem.z, (false, ())) := by
  rcases at_cases n c with ⟨_, e⟩ | ⟨i, hi, _, e⟩
  · exact e
  · have := congrArg (fun s : side => s.2.1) e
    have h2 : hasN n c = true := this
    rw [h] at h2; cases h2
theorem sd_yes {c : List Elem} (hs : Ris c) {e : Elem} (he : e ∈ c) {n : Int} (hn : e.1 = n) : sd c n = (e, (true, ())) := by
  unfold sd
  rw [findS_eq hs he hn, hasN_iff.2 ⟨e, he, hn⟩]
theorem step_num (n : Int) (X Y Z : side) (hy : SdOk n Y) (hz : SdOk n Z) : ∀ e ∈ (stepP n X Y Z).1, e.1 = n ∧ BE e := by
  have one : ∀ s : side, SdOk n s → ∀ e ∈ (if s.2.1 = true then [s.1] else []), e.1 = n ∧ BE e := fun s hs e he => by
    split at he
    · rename_i h
      simp at he
      rw [he]; exact ⟨(hs.1 h).2, (hs.1 h).1⟩
    · simp at he
  intro e he
  by_cases h1 : Y = Z ∨ Z = X
  · rw [stepP1 h1] at he; exact one Y hy e he
  by_cases h2 : Y = X
  · rw [stepP2 h1 h2] at he; exact one Z hz e he
  by_cases h3 : Y.2.1 ≠ Z.2.1
  · rw [stepP3 h1 h2 h3] at he; simp at he
  rw [stepP4 h1 h2 h3] at he
  split at he
  · simp at he
  · simp at he
    rw [he]
    exact ⟨putF_id _ _ _ _ _, putF_BE _ _ _ _ _ ⟨by show (0 : Int) ≤ 0; omega, by show (0 : Int) ≤ 255; omega⟩⟩
theorem out_ris {o a b : List Elem} (ha : AllB a) (hb : AllB b) {ids : List Int} (hi : RisI ids) : Ris (outM o a b ids) := by
  refine List.pairwise_flatMap.2 ⟨fun n _ => ?_, ?_⟩
  · have hl := (stepP_len n (sd o n) (sd a n) (sd b n)).1
    show List.Pairwise _ (stepP n (sd o n) (sd a n) (sd b n)).1
    generalize (stepP n (sd o n) (sd a n) (sd b n)).1 = l at hl ⊢
    match l, hl with
    | [], _ => exact List.Pairwise.nil
    | [e], _ => exact List.pairwise_singleton _ _
    | _ :: _ :: _, hl => simp at hl
  · refine List.Pairwise.imp ?_ hi
    intro p q hpq u hu v hv
    have h1 := (step_num p _ _ _ (sd_ok ha p) (sd_ok hb p) u hu).1
    have h2 := (step_num q _ _ _ (sd_ok ha q) (sd_ok hb q) v hv).1
    rw [h1, h2]; exact hpq
theorem out_sd {o a b : List Elem} (ha : AllB a) (hb : AllB b) {ids : List Int} (hi : RisI ids) {n : Int} (hn : n ∈ ids) : sd (outM o a b ids) n = sdL (stepP n (sd o n) (sd a n) (sd b n)).1 := by
  have hl := (stepP_len n (sd o n) (sd a n) (sd b n)).1
  have hm : ∀ x, x ∈ outM o a b ids ↔ ∃ q, q ∈ ids ∧ x ∈ (stepP q (sd o q) (sd a q) (sd b q)).1 := fun x => List.mem_flatMap
  have hnum := step_num n (sd o n) (sd a n) (sd b n) (sd_ok ha n) (sd_ok hb n)
  cases hs : (stepP n (sd o n) (sd a n) (sd b n)).1 with
  | nil =>
    refine sd_no (hasN_no.2 fun x hx e => ?_)
    obtain ⟨q, hq, hx⟩ := (hm x).1 hx
    have hq2 := (step_num q _ _ _ (sd_ok ha q) (sd_ok hb q) x hx).1
    have : q = n := hq2.symm.trans e
    subst this
    rw [hs] at hx; simp at hx
  | cons e r =>
    have he : e ∈ outM o a b ids := (hm e).2 ⟨n, hn, by rw [hs]; simp⟩
    exact sd_yes (out_ris ha hb hi) he (hnum e (by rw [hs]; simp)).1
theorem merge_parts {o a b : List Elem} (h : (mergeS o a b).2 = []) : cnfM o a b (idsS o a b) = [] ∧ (mergeS o a b).1 = outM o a b (idsS o a b) ∧ (checkS (outM o a b (idsS o a b))).1 = 0 := by
  unfold mergeS at h ⊢
  unfold endS at h ⊢
  by_cases hc : cnfM o a b (idsS o a b) = []
  · rw [if_pos hc] at h ⊢
    by_cases hz : (checkS (outM o a b (idsS o a b))).1 = 0
    · rw [if_pos hz]; exact ⟨hc, rfl, hz⟩
    · rw [if_neg hz] at h; cases h
  · rw [if_neg hc] at h; exact (hc h).elim
theorem merge_kp {o a b : List Elem} (ha : AllB a) (hb : AllB b) (h : (mergeS o a b).2 = []) : KpX (mergeS o a b).1 := by
  obtain ⟨h1, h2, h3⟩ := merge_parts h
  rw [h2]
  refine ⟨check_zero h3, fun x hx => ?_⟩
  obtain ⟨q, hq, hx⟩ := List.mem_flatMap.1 hx
  exact (step_num q _ _ _ (sd_ok ha q) (sd_ok hb q) x hx).2
theorem merge_cell {o a b : List Elem} (ho : AllB o) (ha : AllB a) (hb : AllB b) (h : (mergeS o a b).2 = []) (n : Int) (f : Nat) (hf : f < 9) : cellS (mergeS o a b).1 n f = wantC (cellS o n f) (cellS a n f) (cellS b n f) := by
  obtain ⟨h1, h2, h3⟩ := merge_parts h
  rw [h2, cellS_sd, cellS_sd, cellS_sd, cellS_sd]
  by_cases hn : n ∈ idsS o a b
  · have hi : RisI (idsS o a b) := sortI_ris _
    rw [out_sd ha hb hi hn]
    exact step_cell n _ _ _ (sd_ok ho n) (sd_ok ha n) (sd_ok hb n) (List.flatMap_eq_nil_iff.1 h1 n hn) f hf
  · have no : ∀ c : List Elem, c ∈ [o, a, b] → sd c n = (Elem.z, (false, ())) := fun c hc => sd_no (by
      cases hq : hasN n c with
      | false => rfl
      | true => exact (hn ((ids_mem _ n).2 ⟨c, hc, hq⟩)).elim)
    rw [no o (by simp), no a (by simp), no b (by simp), want_both]
    rw [sd_no (hasN_no.2 fun x hx e => ?_)]
    obtain ⟨q, hq, hx⟩ := List.mem_flatMap.1 hx
    have hq2 := (step_num q _ _ _ (sd_ok ha q) (sd_ok hb q) x hx).1
    have : q = n := hq2.symm.trans e
    subst this
    exact hn hq
theorem merged_yes {o a b : List Elem} (ho : AllB o) (ha : AllB a) (hb : AllB b) (h : (mergeS o a b).2 = []) : mergedS o a b (mergeS o a b).1 = true := mergedS_iff.2 fun n _ k hk => merge_cell ho ha hb h n k hk
theorem merged_only {o a b m : List Elem} (ho : AllB o) (ha : AllB a) (hb : AllB b) (h : (mergeS o a b).2 = []) (sm : Ris m) (bm : AllB m) (hm : mergedS o a b m = true) : (mergeS o a b).1 = m := by
  have hk := merge_kp ha hb h
  have key : ∀ n, sd (mergeS o a b).1 n = sd m n := fun n => by
    have hc : ∀ k : Nat, k < 9 → cellS (mergeS o a b).1 n k = cellS m n k := fun k hk => by
      by_cases hn : hasN n o = true ∨ hasN n a = true ∨ hasN n b = true ∨ hasN n m = true
      · rw [merge_cell ho ha hb h n k hk, mergedS_iff.1 hm n hn k hk]
      · have no : ∀ c : List Elem, hasN n c ≠ true → sd c n = (Elem.z, (false, ())) := fun c hc => sd_no (by rw [← Bool.not_eq_true]; exact hc)
        rw [merge_cell ho ha hb h n k hk, cellS_sd, cellS_sd, cellS_sd, cellS_sd, no o (fun e => hn (.inl e)), no a (fun e => hn (.inr (.inl e))), no b (fun e => hn (.inr (.inr (.inl e)))), no m (fun e => hn (.inr (.inr (.inr e)))), want_both]
    have h1 := sd_ok hk.2 n
    have h2 := sd_ok bm n
    have e1 : (sd (mergeS o a b).1 n).2.1 = (sd m n).2.1 := congrArg Prod.snd (hc 0 (by omega))
    have e2 : (sd (mergeS o a b).1 n).1 = (sd m n).1 := by
      cases hq : (sd m n).2.1 with
      | false => rw [h1.2 (e1.trans hq), h2.2 hq]
      | true =>
        obtain ⟨b1, n1⟩ := h1.1 (e1.trans hq)
        obtain ⟨b2, n2⟩ := h2.1 hq
        exact elem_ext b1 b2 (n2.trans n1.symm) fun f hf => congrArg Prod.fst (hc f hf)
    generalize sd (mergeS o a b).1 n = A at e1 e2 ⊢
    generalize sd m n = B at e1 e2 ⊢
    obtain ⟨x, p, _⟩ := A
    obtain ⟨y, q, _⟩ := B
    cases e1; cases e2; rfl
  have mem : ∀ c d : List Elem, Ris c → (∀ n, sd c n = sd d n) → ∀ x, x ∈ c → x ∈ d := fun c d sc hcd x hx => by
    have h1 := sd_yes sc hx rfl
    rw [hcd] at h1
    have h2 : hasN x.1 d = true := congrArg (fun s : side => s.2.1) h1
    have h3 : findS d x.1 = x := congrArg (fun s : side => s.1) h1
    rw [← h3]; exact (findS_mem h2).1
  exact ris_ext (kpX_ris hk) sm fun x => ⟨mem _ _ (kpX_ris hk) key x, mem _ _ sm (fun n => (key n).symm) x⟩
theorem confT_nil (n : Int) (Y Z : Elem) : ∀ (l : List Int), (∀ f ∈ l, valL Y f = valL Z f) → confT n Y Z l = []
  | [], _ => rfl
  | f :: r, h => by
    unfold confT
    rw [if_neg (by simpa using h f (by simp)), List.nil_append]
    exact confT_nil n Y Z r fun g hg => h g (by simp [hg])
theorem confF_nil (n : Int) (X Y Z : Elem) : ∀ (l : List Int), (∀ f ∈ l, apart3 X Y Z f = false) → confF n X Y Z l = []
  | [], _ => rfl
  | f :: r, h => by
    unfold confF
    rw [if_neg (by rw [h f (by simp)]; simp), List.nil_append]
    exact confF_nil n X Y Z r fun g hg => h g (by simp [hg])
theorem fields_nat {g : Int} (h : g ∈ fields9 0 9) : ∃ f : Nat, f < 9 ∧ g = (f : Int) := by
  obtain ⟨f, hf, e⟩ := List.mem_map.1 h
  exact ⟨f, by simp [List.mem_range'] at hf; omega, e.symm⟩
theorem side_same {A B : side} (e1 : A.1 = B.1) (e2 : A.2.1 = B.2.1) : A = B := by
  obtain ⟨a, p, _⟩ := A
  obtain ⟨b, q, _⟩ := B
  cases e1; cases e2; rfl
theorem side_diff {n : Int} {A B : side} (ha : SdOk n A) (hb : SdOk n B) (h1 : A.2.1 = true) (h2 : B.2.1 = true) (hne : A ≠ B) : ∃ f : Nat, f < 9 ∧ valL A.1 (f : Int) ≠ valL B.1 (f : Int) := by
  refine Classical.byContradiction fun hn => hne (side_same ?_ (h1.trans h2.symm))
  refine elem_ext (ha.1 h1).1 (hb.1 h2).1 ((hb.1 h2).2.trans (ha.1 h1).2.symm) fun f hf => ?_
  exact Classical.byContradiction fun he => hn ⟨f, hf, he⟩
/-- WHERE THE SIDES PART there is a cell of which all three are unlike. -/
theorem parted_cell (n : Int) (X Y Z : side) (hx : SdOk n X) (hy : SdOk n Y) (hz : SdOk n Z) (hc : (stepP n X Y Z).2 ≠ []) : ∃ f : Nat, f < 9 ∧ cellO Y f ≠ cellO X f ∧ cellO Z f ≠ cellO X f ∧ cellO Y f ≠ cellO Z f := by
  have ok : ∀ {A B : side} {f : Nat}, A.2.1 ≠ B.2.1 → cellO A f ≠ cellO B f := fun h e => h (congrArg Prod.snd e)
  have vl : ∀ {A B : side} {f : Nat}, valL A.1 (f : Int) ≠ valL B.1 (f : Int) → cellO A f ≠ cellO B f := fun h e => h (congrArg Prod.fst e)
  have none : ∀ {A B : side}, SdOk n A → SdOk n B → A.2.1 = false → B.2.1 = false → A = B := fun ha hb h1 h2 => side_same ((ha.2 h1).trans (hb.2 h2).symm) (h1.trans h2.symm)
  have h1 : ¬(Y = Z ∨ Z = X) := fun h => hc (by rw [stepP1 h])
  have h2 : ¬Y = X := fun h => hc (by rw [stepP2 h1 h])
  by_cases h3 : Y.2.1 ≠ Z.2.1
  · cases hq : Y.2.1 with
    | true =>
      have hr : Z.2.1 = false := by
        cases hr : Z.2.1 with
        | false => rfl
        | true => exact (h3 (hq.trans hr.symm)).elim
      have hp : X.2.1 = true := by
        cases hp : X.2.1 with
        | true => rfl
        | false => exact (h1 (.inr (none hz hx hr hp))).elim
      obtain ⟨f, hf, hv⟩ := side_diff hy hx hq hp h2
      exact ⟨f, hf, vl hv, ok (by rw [hr, hp]; simp), ok h3⟩
    | false =>
      have hr : Z.2.1 = true := by
        cases hr : Z.2.1 with
        | true => rfl
        | false => exact (h3 (hq.trans hr.symm)).elim
      have hp : X.2.1 = true := by
        cases hp : X.2.1 with
        | true => rfl
        | false => exact (h2 (none hy hx hq hp)).elim
      obtain ⟨f, hf, hv⟩ := side_diff hz hx hr hp (fun e => h1 (.inr e))
      exact ⟨f, hf, ok (by rw [hq, hp]; simp), vl hv, ok h3⟩
  rw [stepP4 h1 h2 h3] at hc
  have h3 : Y.2.1 = Z.2.1 := Classical.not_not.1 h3
  have hq : Y.2.1 = true := by
    cases hq : Y.2.1 with
    | true => rfl
    | false => exact (h1 (.inl (none hy hz hq (h3 ▸ hq)))).elim
  have hr : Z.2.1 = true := h3 ▸ hq
  by_cases h4 : X.2.1 = false
  · obtain ⟨f, hf, hv⟩ := side_diff hy hz hq hr (fun e => h1 (.inl e))
    exact ⟨f, hf, ok (by rw [hq, h4]; simp), ok (by rw [hr, h4]; simp), vl hv⟩
  · rw [if_neg h4] at hc
    refine Classical.byContradiction fun hn => hc (confF_nil n _ _ _ _ fun g hg => ?_)
    obtain ⟨f, hf, rfl⟩ := fields_nat hg
    unfold apart3
    refine decide_eq_false fun ⟨e1, e2, e3⟩ => hn ⟨f, hf, vl e2, vl e3, vl e1⟩
theorem neC_true {u v : Val × Bool} (h : u ≠ v) : neC u v = true := by
  cases hn : neC u v with
  | true => rfl
  | false => exact (h ((neC_iff u v).1 hn)).elim
theorem parted_no {o a b : List Elem} (ho : AllB o) (ha : AllB a) (hb : AllB b) (h : cnfM o a b (idsS o a b) ≠ []) : mergedS o b a a = false ∧ mergedS o a b b = false := by
  have hex : ∃ n, n ∈ idsS o a b ∧ (stepP n (sd o n) (sd a n) (sd b n)).2 ≠ [] := by
    refine Classical.byContradiction fun hn => h (List.flatMap_eq_nil_iff.2 fun n hm => ?_)
    exact Classical.byContradiction fun he => hn ⟨n, hm, he⟩
  obtain ⟨n, hm, hc⟩ := hex
  obtain ⟨f, hf, e1, e2, e3⟩ := parted_cell n _ _ _ (sd_ok ho n) (sd_ok ha n) (sd_ok hb n) hc
  rw [← cellS_sd, ← cellS_sd] at e1 e2 e3
  have hw1 : wantC (cellS o n f) (cellS b n f) (cellS a n f) = cellS b n f := by unfold wantC; rw [neC_true e2, cond_true]
  have hw2 : wantC (cellS o n f) (cellS a n f) (cellS b n f) = cellS a n f := by unfold wantC; rw [neC_true e1, cond_true]
  obtain ⟨c, hcm, hcn⟩ := (ids_mem [o, a, b] n).1 hm
  have hor : hasN n o = true ∨ hasN n a = true ∨ hasN n b = true := by
    simp at hcm
    rcases hcm with rfl | rfl | rfl
    · exact .inl hcn
    · exact .inr (.inl hcn)
    · exact .inr (.inr hcn)
  constructor
  · rw [← Bool.not_eq_true]
    intro hg
    have := mergedS_iff.1 hg n (by rcases hor with h | h | h; exact .inl h; exact .inr (.inr (.inl h)); exact .inr (.inl h)) f hf
    rw [hw1] at this
    exact e3 this
  · rw [← Bool.not_eq_true]
    intro hg
    have := mergedS_iff.1 hg n (by rcases hor with h | h | h; exact .inl h; exact .inr (.inl h); exact .inr (.inr (.inl h))) f hf
    rw [hw2] at this
    exact e3 this.symm
theorem clsR_big (r : Int) : 7 ≤ clsR r := by unfold clsR; repeat' split <;> omega
theorem judgeMerges (by_ : Nat → Nat) (o a b x : List Act) (w0 : Wf by_ (.sl 78 tAct) o) (w1 : Wf by_ (.sl 78 tAct) a) (w2 : Wf by_ (.sl 78 tAct) b) (w3 : Wf by_ (.sl 78 tAct) x) (K : Bool → Prop) (h : K true) : law23.JudgeMerges o a b x K := by
  have ha : ∀ e : Act, e ∈ a → ActOk e := fun e he => (w1.1 e he).2.1
  have hb : ∀ e : Act, e ∈ b → ActOk e := fun e he => (w2.1 e he).2.1
  have hx : ∀ e : Act, e ∈ x → ActOk e := fun e he => (w3.1 e he).2.1
  have gate : ∀ t : Bool, (t = false → o.length ≤ 24 ∧ a.length ≤ 24 ∧ b.length ≤ 24 ∧ x.length ≤ 12) → law23.JudgeMerges.j4 K o a b x t := fun t ht => by
    unfold law23.JudgeMerges.j4
    cases t with
    | true => rw [br_true]; exact awake23_law _ h
    | false =>
      rw [br_false]
      obtain ⟨h1, h2, h3, h4⟩ := ht rfl
      refine makeX_law _ _ (by omega) fun p hp _ => changeX_law _ _ _ (by omega) ha hp fun q hq => changeX_law _ _ _ (by omega) hb hp fun r hr => ?_
      have lp := kpX_len hp
      have lq := kpX_len hq
      have lr := kpX_len hr
      have sp := kpX_ris hp
      have sq := kpX_ris hq
      have sr := kpX_ris hr
      refine merge_law _ _ _ _ sp sq sr (by omega) (by omega) (by omega) ?_
      rw [show ((0 : Int) != 0) = false from rfl, br_false]
      by_cases hl : (mergeS p q r).2 = []
      · rw [decide_eq_false (by rw [hl]; simp), br_false]
        have hm := merge_kp hq.2 hr.2 hl
        have y1 := merged_yes hp.2 hq.2 hr.2 hl
        have ht := merge_turn p q r
        have y2 : mergedS p r q (mergeS p q r).1 = true := by
          have := merged_yes hp.2 hr.2 hq.2 (by rw [← ht]; exact hl)
          rw [← ht] at this; exact this
        have only : ∀ n, KpX n → mergedS p q r n = decide ((mergeS p q r).1 = n) := fun n hn => by
          rw [Bool.eq_iff_iff, decide_eq_true_iff]
          exact ⟨fun e => merged_only hp.2 hq.2 hr.2 hl (kpX_ris hn) hn.2 e, fun e => by rw [← e]; exact y1⟩
        generalize (mergeS p q r).1 = m at hm y1 y2 only ⊢
        have lm := kpX_len hm
        refine changeX_law _ _ _ (by omega) hx hm fun n hn => ?_
        have ln := kpX_len hn
        refine Merged_law sp sq sr (kpX_ris hm) (by omega) (by omega) (by omega) (by omega) _ ?_
        rw [y1, br_true]
        refine Merged_law sp sr sq (kpX_ris hm) (by omega) (by omega) (by omega) (by omega) _ ?_
        rw [y2, br_true]
        refine Merged_law sp sq sr (kpX_ris hn) (by omega) (by omega) (by omega) (by omega) _ ?_
        refine same_law _ _ _ (by omega) ?_
        rw [only n hn]
        cases decide (m = n) with
        | true => exact h
        | false => exact h
      · have hpos : 0 < (mergeS p q r).2.length := List.length_pos_iff.2 hl
        rw [decide_eq_true (by omega), br_true]
        have fin : ∀ one other : Bool, ((mergeS p q r).2[0].1 < 7 → one = false ∧ other = false) → law23.JudgeMerges.j24 K (mergeS p q r).2 one other := fun one other hoo => by
          unfold law23.JudgeMerges.j24
          refine ⟨⟨by omega, by omega⟩, ?_⟩
          rw [show ix Conflict.z (mergeS p q r).2 (0 : Int) = (mergeS p q r).2[0] from ix_nat _ _ 0 hpos]
          by_cases h7 : (mergeS p q r).2[0].1 ≥ 7
          · rw [decide_eq_true h7, br_true]; exact h
          · rw [decide_eq_false h7, br_false]
            obtain ⟨rfl, rfl⟩ := hoo (by omega)
            exact h
        have no : (mergeS p q r).2[0].1 < 7 → mergedS p r q q = false ∧ mergedS p q r r = false := fun hlt => by
          refine parted_no hp.2 hq.2 hr.2 fun hc => ?_
          have e : (mergeS p q r).2 = [(clsR (checkS (outM p q r (idsS p q r))).1, ((checkS (outM p q r (idsS p q r))).2, ((-(1 : Int)), ())))] := by
            have hl' := hl
            unfold mergeS endS at hl' ⊢
            rw [if_pos hc] at hl' ⊢
            by_cases hz : (checkS (outM p q r (idsS p q r))).1 = 0
            · rw [if_pos hz] at hl'; exact (hl' rfl).elim
            · rw [if_neg hz]
          have h7 := clsR_big (checkS (outM p q r (idsS p q r))).1
          simp only [e, List.getElem_cons_zero] at hlt
          omega
        have j22 : ∀ one : Bool, ((mergeS p q r).2[0].1 < 7 → one = false) → law23.JudgeMerges.j22 K p q r (mergeS p q r).2 one := fun one ho => by
          unfold law23.JudgeMerges.j22
          refine Merged_law sp sq sr sr (by omega) (by omega) (by omega) (by omega) _ ?_
          cases h3 : mergedS p q r r with
          | false => rw [br_false]; exact fin _ _ fun hlt => ⟨ho hlt, rfl⟩
          | true =>
            rw [br_true]
            refine Merged_law sp sr sq sr (by omega) (by omega) (by omega) (by omega) _ ?_
            refine fin _ _ fun hlt => ?_
            have := (no hlt).2
            rw [h3] at this; cases this
        refine Merged_law sp sq sr sq (by omega) (by omega) (by omega) (by omega) _ ?_
        cases h3 : mergedS p q r q with
        | false => rw [br_false]; exact j22 _ fun _ => rfl
        | true =>
          rw [br_true]
          refine Merged_law sp sr sq sq (by omega) (by omega) (by omega) (by omega) _ ?_
          exact j22 _ fun hlt => (no hlt).1
  unfold law23.JudgeMerges
  refine awake23_law _ ?_
  rw [Bool.not_true, br_false]
  by_cases h1 : o.length > 24
  · rw [decide_eq_true (by omega), br_true]
    exact gate true fun h => by cases h
  rw [decide_eq_false (by omega), br_false]
  by_cases h2 : a.length > 24
  · rw [decide_eq_true (by omega), br_true]
    exact gate true fun h => by cases h
  rw [decide_eq_false (by omega), br_false]
  by_cases h3 : b.length > 24
  · rw [decide_eq_true (by omega), br_true]
    exact gate true fun h => by cases h
  rw [decide_eq_false (by omega), br_false]
  refine gate _ fun hb => ⟨by omega, by omega, by omega, ?_⟩
  have := of_decide_eq_false hb
  omega
end Go.Iw
/- Plain laws: charts that are made have small orders; a chart of which an element's order, event, guard, action are others. -/
namespace Go.Iw
open Go.Iv
set_option linter.unusedVariables false
set_option linter.unusedSimpArgs false
set_option linter.unusedSectionVars false

/-! Made: orders are small. -/
def KpO (c : List Elem) : Prop := KpX c ∧ ∀ e : Elem, e ∈ c → e.2.2.2.1 ≤ 3
theorem makeO_j77 (K0 : (List Act) → (List Elem) → Int → Prop) (l : List Act) (c : List Elem) (i : Nat) (e : Elem) (hi : i ≤ 1000) (hc : KpO c) (he : BE e) (ho : e.2.2.2.1 ≤ 3) (h : ∀ d, KpO d → d.length ≤ c.length + 1 → K0 l d ((i + 1 : Nat) : Int)) : r09.Make.j77 K0 l c (i : Int) e := by
  unfold r09.Make.j77 r09.Make.j187
  have := kpX_len hc.1
  have hl := put_len c e
  rw [wrap_succ i (by omega)]
  refine rPut_law _ _ _ (kpX_ris hc.1) (by omega) (checkX_law _ _ (by omega) ?_)
  by_cases h0 : (checkS (putS c e)).1 = 0
  · rw [show ((checkS (putS c e)).1 == 0) = true from by simp [h0], br_true]
    refine h _ ⟨⟨check_zero h0, allB_put hc.1.2 he⟩, fun x hx => ?_⟩ hl
    rcases mem_putS.1 hx with rfl | ⟨hx, _⟩
    · exact ho
    · exact hc.2 x hx
  · rw [show ((checkS (putS c e)).1 == 0) = false from by simpa using h0, br_false]
    exact h c hc (by omega)
theorem makeO_j57 (K0 : (List Act) → (List Elem) → Int → Prop) (l : List Act) (c : List Elem) (i : Nat) (x : Act) (e : Elem) (hi : i ≤ 1000) (hc : KpO c) (he : BE e) (ho : e.2.2.2.1 ≤ 3) (h : ∀ d, KpO d → d.length ≤ c.length + 1 → K0 l d ((i + 1 : Nat) : Int)) : r09.Make.j57 K0 l c (i : Int) x e := by
  unfold r09.Make.j57
  refine named_law _ _ fun b => br_any ⟨by omega, bytes1X _ 0, makeO_j77 K0 l c i _ hi hc he ho h⟩ (makeO_j77 K0 l c i _ hi hc he ho h)
theorem small4 (n : Int) : IntKind.wrap .i64 (Int.tmod n 4) ≤ 3 := by
  have h1 : Int.tmod n 4 < 4 := Int.tmod_lt_of_pos _ (by omega)
  have h2 : -4 < Int.tmod n 4 := Int.lt_tmod_of_pos _ (by omega)
  rw [wrap_small (by omega) (by omega)]; omega
theorem makeO_loop (l : List Act) (K0 : (List Elem) → Prop) (hl : l.length ≤ 1000) (h : ∀ c, KpO c → c.length ≤ 24 → K0 c) : ∀ (k i : Nat) (c : List Elem) (n : Nat), l.length - i ≤ k → k < n → i ≤ 24 → c.length ≤ i → KpO c → r09.Make.l3 K0 n l c (i : Int)
  | k, i, c, 0, hk, hn, hi, hc, hI => by omega
  | k, i, c, n + 1, hk, hn, hi, hc, hI => by
    simp only [r09.Make.l3]
    unfold r09.Make.j8
    by_cases hlt : i < l.length
    · rw [lt_true hlt, br_true]
      by_cases h24 : i < 24
      · rw [decide_eq_true (by omega), br_true, ix_nat _ _ _ hlt]
        have ih : ∀ d, KpO d → d.length ≤ c.length + 1 → r09.Make.l3 K0 n l d ((i + 1 : Nat) : Int) := fun d hd hdl => makeO_loop l K0 hl h (k - 1) (i + 1) d n (by omega) (by omega) (by omega) (by omega) hd
        refine ⟨⟨by omega, by omega⟩, by omega, by omega, by omega, rFind_law _ _ _ (by have := kpX_len hI.1; omega) ?_⟩
        refine br_any ?_ (br_any ⟨by omega, by omega, text_law _ _ fun s1 => text_law _ _ fun s2 => text_law _ _ fun s3 => makeO_j57 (fun a b d => r09.Make.l3 K0 n a b d) l c i _ _ (by omega) hI (wrapBX _) (small4 _) ih⟩ ⟨by omega, by omega, br_any (makeO_j57 (fun a b d => r09.Make.l3 K0 n a b d) l c i _ _ (by omega) hI (wrapBX _) (small4 _) ih) (makeO_j57 (fun a b d => r09.Make.l3 K0 n a b d) l c i _ _ (by omega) hI (wrapBX _) (small4 _) ih)⟩)
        unfold r09.Make.j187
        rw [wrap_succ i (by omega)]
        exact ih c hI (by omega)
      · rw [decide_eq_false (by omega), br_false]
        exact h c hI (by omega)
    · rw [lt_false (by omega), br_false, br_false]
      exact h c hI (by omega)
theorem makeO_law (l : List Act) (K : (List Elem) → Prop) (hl : l.length ≤ 1000) (h : ∀ c, KpO c → c.length ≤ 24 → K c) : r09.Make l K :=
  ⟨l.length + 1, makeO_loop l K hl h l.length 0 [] _ (by omega) (by omega) (by omega) (by simp) ⟨kpX_nil, fun e he => by simp at he⟩⟩

/-! Elements of which order, event, guard, action may be others. -/
def Lik (g : Elem → Elem) : Prop := ∀ e : Elem, (g e).1 = e.1 ∧ (g e).2.1 = e.2.1 ∧ (g e).2.2.1 = e.2.2.1 ∧ (g e).2.2.2.2.1 = e.2.2.2.2.1 ∧ (g e).2.2.2.2.2.1 = e.2.2.2.2.2.1 ∧ (g e).2.2.2.2.2.2.1 = e.2.2.2.2.2.2.1
section
variable {g : Elem → Elem} (hg : Lik g)
include hg
theorem here_map (n : Int) (c : List Elem) : here n (c.map g) = (here n c).map g := by
  unfold here
  rw [List.filter_map]
  congr 2
  funext x
  show ((g x).1 == n) = (x.1 == n)
  rw [(hg x).1]
theorem hasN_map (n : Int) (c : List Elem) : hasN n (c.map g) = hasN n c := by
  unfold hasN
  rw [here_map hg]
  cases here n c <;> rfl
theorem findS_map {n : Int} {c : List Elem} (h : hasN n c = true) : findS (c.map g) n = g (findS c n) := by
  unfold hasN at h
  unfold findS
  rw [here_map hg]
  cases hh : here n c with
  | nil => rw [hh] at h; simp at h
  | cons y r => rfl
theorem kindS_map (n : Int) (c : List Elem) : kindS (c.map g) n = kindS c n := by
  unfold kindS
  rw [hasN_map hg]
  by_cases h : hasN n c = true
  · rw [if_pos h, if_pos h, findS_map hg h, (hg _).2.1]
  · rw [if_neg h, if_neg h]
theorem brk5_map (c : List Elem) (id : Int) : ∀ (k : Nat) (p : Int), brk5 (c.map g) id k p = brk5 c id k p
  | 0, p => rfl
  | k + 1, p => by
    unfold brk5
    rw [hasN_map hg]
    by_cases h1 : p = id
    · rw [if_pos h1, if_pos h1]
    · rw [if_neg h1, if_neg h1]
      by_cases h : hasN p c = true
      · rw [if_pos h, if_pos h, findS_map hg h, (hg _).2.2.1]
        exact brk5_map c id k _
      · rw [if_neg h, if_neg h]
theorem namedB_map (e : Elem) : namedB (g e) = namedB e := by unfold namedB; rw [(hg e).2.1]
theorem b3S_map (c : List Elem) (e : Elem) : b3S (c.map g) (g e) = b3S c e := by
  unfold b3S nmS
  rw [namedB_map hg, List.any_map, (hg e).2.2.2.1]
  congr 2
  congr 1
  funext x
  show twinB (g e) (g x) = twinB e x
  unfold twinB nmS
  rw [namedB_map hg, (hg e).1, (hg x).1, (hg e).2.2.1, (hg x).2.2.1, (hg e).2.2.2.1, (hg x).2.2.2.1]
theorem b4S_map (c : List Elem) (e : Elem) : b4S (c.map g) (g e) = b4S c e := by
  unfold b4S
  rw [(hg e).2.1, (hg e).2.2.1, kindS_map hg]
theorem b5S_map (c : List Elem) (e : Elem) : b5S (c.map g) (g e) = b5S c e := by
  unfold b5S
  rw [List.length_map, (hg e).1, (hg e).2.2.1, brk5_map hg]
theorem b6S_map (c : List Elem) (e : Elem) : b6S (c.map g) (g e) = b6S c e := by
  unfold b6S
  rw [(hg e).2.1, (hg e).2.2.2.2.1, (hg e).2.2.2.2.2, kindS_map hg, kindS_map hg]
theorem b8S_map (c : List Elem) (e : Elem) : b8S (c.map g) (g e) = b8S c e := by
  unfold b8S
  rw [List.any_map, List.any_map, (hg e).1]
  congr 1
  · congr 1
    funext x
    show (((g x).2.2.1 == e.1) && ((g x).2.1 == 2)) = _
    rw [(hg x).2.1, (hg x).2.2.1]
  · congr 1
    funext x
    show (((g x).2.2.1 == e.1) && ((g x).2.1 != 2)) = _
    rw [(hg x).2.1, (hg x).2.2.1]
/-- Such a chart keeps the rules, if it keeps the first, the second, and the one of orders. -/
theorem kpX_map {c : List Elem} (hc : KpX c) (h1 : ∀ e : Elem, e ∈ c → rightE (g e) = true) (h2 : ∀ e : Elem, e ∈ c → b2S (g e) = false) (h7 : ∀ e : Elem, e ∈ c → b7S (c.map g) (g e) = false) : KpX (c.map g) := by
  obtain ⟨hr, hb⟩ := check_all hc.1
  obtain ⟨r1, r2, r3⟩ := rightC_iff.1 hr
  have hs : Ris (c.map g) := by
    unfold Ris at r2 ⊢
    rw [List.pairwise_map]
    exact List.Pairwise.imp (fun {a b} h => by rw [(hg a).1, (hg b).1]; exact h) r2
  refine ⟨check_mk (rightC_iff.2 ⟨by simpa using r1, hs, fun e he => ?_⟩) (fun r hrr e he => ?_), fun e he => ?_⟩
  · obtain ⟨x, hx, rfl⟩ := List.mem_map.1 he
    exact h1 x hx
  · obtain ⟨x, hx, rfl⟩ := List.mem_map.1 he
    have hbx := hb r hrr x hx
    unfold breaksS at hbx ⊢
    by_cases q2 : r = 2
    · rw [if_pos q2]; exact h2 x hx
    rw [if_neg q2] at hbx ⊢
    by_cases q3 : r = 3
    · rw [if_pos q3] at hbx ⊢; rw [b3S_map hg]; exact hbx
    rw [if_neg q3] at hbx ⊢
    by_cases q4 : r = 4
    · rw [if_pos q4] at hbx ⊢; rw [b4S_map hg]; exact hbx
    rw [if_neg q4] at hbx ⊢
    by_cases q5 : r = 5
    · rw [if_pos q5] at hbx ⊢; rw [b5S_map hg]; exact hbx
    rw [if_neg q5] at hbx ⊢
    by_cases q6 : r = 6
    · rw [if_pos q6] at hbx ⊢; rw [b6S_map hg]; exact hbx
    rw [if_neg q6] at hbx ⊢
    by_cases q7 : r = 7
    · rw [if_pos q7]; exact h7 x hx
    rw [if_neg q7] at hbx ⊢
    rw [b8S_map hg]; exact hbx
  · obtain ⟨x, hx, rfl⟩ := List.mem_map.1 he
    have := hc.2 x hx
    unfold BE at this ⊢
    rw [(hg x).2.1]; exact this
end
end Go.Iw
/- MergeFields: the plain law. -/
namespace Go.Iw
open Go.Iv
set_option linter.unusedVariables false
set_option linter.unusedSimpArgs false
set_option linter.unusedSectionVars false

def mixO (q : Int) (e : Elem) : Elem := (e.1, (e.2.1, (e.2.2.1, (q, e.2.2.2.2))))
def mixG (s : ByteArray) (e : Elem) : Elem := (e.1, (e.2.1, (e.2.2.1, (e.2.2.2.1, (e.2.2.2.2.1, (e.2.2.2.2.2.1, (e.2.2.2.2.2.2.1, (e.2.2.2.2.2.2.2.1, (s, e.2.2.2.2.2.2.2.2.2)))))))))
def atN (n : Int) (f : Elem → Elem) (e : Elem) : Elem := if e.1 = n then f e else e
theorem set_map {o : List Elem} (so : Ris o) {i : Nat} (hi : i < o.length) (f : Elem → Elem) : o.set i (f o[i]) = o.map (atN o[i].1 f) := by
  refine List.ext_getElem (by simp) fun j h1 h2 => ?_
  have hj : j < o.length := by simpa using h1
  rw [List.getElem_set, List.getElem_map]
  unfold atN
  by_cases h : i = j
  · subst h; rw [if_pos rfl, if_pos rfl]
  · rw [if_neg h, if_neg fun e => ?_]
    have := List.pairwise_iff_getElem.1 so
    rcases Nat.lt_or_gt_of_ne h with h | h
    · have := this i j hi hj h; omega
    · have := this j i hj hi h; omega
theorem val_mixO (q : Int) (e : Elem) {f : Nat} (hf : f < 9) (h : f ≠ 2) : valL (mixO q e) (f : Int) = valL e (f : Int) := by
  have : f = 0 ∨ f = 1 ∨ f = 3 ∨ f = 4 ∨ f = 5 ∨ f = 6 ∨ f = 7 ∨ f = 8 := by omega
  rcases this with rfl | rfl | rfl | rfl | rfl | rfl | rfl | rfl <;> rfl
theorem val_mixG (s : ByteArray) (e : Elem) {f : Nat} (hf : f < 9) (h : f ≠ 7) : valL (mixG s e) (f : Int) = valL e (f : Int) := by
  have : f = 0 ∨ f = 1 ∨ f = 2 ∨ f = 3 ∨ f = 4 ∨ f = 5 ∨ f = 6 ∨ f = 8 := by omega
  rcases this with rfl | rfl | rfl | rfl | rfl | rfl | rfl | rfl <;> rfl
/-- Unlike fields, set on unlike sides. -/
theorem step_mix {n : Int} {x y z w : Elem} (bx : BE x) (b1 : BE y) (bz : BE z) (bw : BE w) (n0 : x.1 = n) (n1 : y.1 = n) (n2 : z.1 = n) (n3 : w.1 = n)
    (h : ∀ f : Nat, f < 9 → (valL y (f : Int) = valL x (f : Int) ∧ valL w (f : Int) = valL z (f : Int)) ∨ (valL z (f : Int) = valL x (f : Int) ∧ valL w (f : Int) = valL y (f : Int))) :
    stepP n (x, (true, ())) (y, (true, ())) (z, (true, ())) = ([w], []) := by
  have sd1 : ∀ {a b : Elem}, ((a, (true, ())) : side) = (b, (true, ())) → a = b := fun e => congrArg Prod.fst e
  unfold stepP
  by_cases h1 : ((y, (true, ())) : side) = (z, (true, ())) ∨ ((z, (true, ())) : side) = (x, (true, ()))
  · rw [if_pos h1]
    have : y = w := elem_ext b1 bw (n3.trans n1.symm) fun f hf => by
      rcases h1 with e | e
      · have e := sd1 e
        subst e
        rcases h f hf with ⟨_, k⟩ | ⟨_, k⟩ <;> exact k.symm
      · have e := sd1 e
        subst e
        rcases h f hf with ⟨k1, k2⟩ | ⟨_, k⟩
        · exact k1.trans k2.symm
        · exact k.symm
    rw [this]; rfl
  rw [if_neg h1]
  by_cases h2 : ((y, (true, ())) : side) = (x, (true, ()))
  · rw [if_pos h2]
    have e := sd1 h2
    have : z = w := elem_ext bz bw (n3.trans n2.symm) fun f hf => by
      subst e
      rcases h f hf with ⟨_, k⟩ | ⟨k1, k2⟩
      · exact k.symm
      · exact k1.trans k2.symm
    rw [this]; rfl
  rw [if_neg h2, if_neg (by simp), if_neg (by simp)]
  have h0 : ∀ f : Nat, f < 9 → (pickS (valL x (f : Int)) (valL y (f : Int)) (valL z (f : Int))).1 = valL w (f : Int) := fun f hf => by
    unfold pickS
    rcases h f hf with ⟨k1, k2⟩ | ⟨k1, k2⟩
    · by_cases q : valL y (f : Int) = valL z (f : Int) ∨ valL z (f : Int) = valL x (f : Int)
      · rw [if_pos q]
        rcases q with q | q
        · exact q.trans k2.symm
        · exact k1.trans (q.symm.trans k2.symm)
      · rw [if_neg q, if_pos k1]; exact k2.symm
    · rw [if_pos (.inr k1)]; exact k2.symm
  have hc : confF n x y z (fields9 0 9) = [] := confF_nil n x y z _ fun g hg => by
    obtain ⟨f, hf, rfl⟩ := fields_nat hg
    unfold apart3
    refine decide_eq_false fun ⟨_, e2, e3⟩ => ?_
    rcases h f hf with ⟨k, _⟩ | ⟨k, _⟩
    · exact e2 k
    · exact e3 k
  rw [hc]
  have : putF x y z (e0 n) (fields9 0 9) = w := by
    refine elem_ext (putF_BE x y z _ _ ⟨by show (0 : Int) ≤ 0; omega, by show (0 : Int) ≤ 255; omega⟩) bw (by rw [putF_id]; exact n3) fun f hf => ?_
    rw [putF_val x y z bx b1 bz 9 0 _ f (by omega) (by omega) (by omega)]
    exact h0 f hf
  show ([putF x y z (e0 n) (fields9 0 9)], []) = ([w], [])
  rw [this]
theorem merge_mix {o : List Elem} {fa fb fw : Elem → Elem} (ho : KpX o) (ha : Lik fa) (hb : Lik fb) (hw : Lik fw) (kw : KpX (o.map fw))
    (h : ∀ e : Elem, ∀ f : Nat, f < 9 → (valL (fa e) (f : Int) = valL e (f : Int) ∧ valL (fw e) (f : Int) = valL (fb e) (f : Int)) ∨ (valL (fb e) (f : Int) = valL e (f : Int) ∧ valL (fw e) (f : Int) = valL (fa e) (f : Int))) :
    mergeS o (o.map fa) (o.map fb) = (o.map fw, []) := by
  refine end_one kw (fun n hn => (ids_mem _ n).2 ⟨o, by simp, by rwa [hasN_map hw] at hn⟩) fun n => ?_
  have yes : ∀ {g : Elem → Elem}, Lik g → hasN n o = true → sd (o.map g) n = (g (findS o n), (true, ())) := fun hg hn => by
    unfold sd; rw [hasN_map hg, hn, findS_map hg hn]
  have be : ∀ {g : Elem → Elem}, Lik g → ∀ e : Elem, BE e → BE (g e) := fun hg e he => by unfold BE at he ⊢; rw [(hg e).2.1]; exact he
  rw [hasN_map hw]
  by_cases hn : hasN n o = true
  · have hm := findS_mem hn
    have hbe := ho.2 _ hm.1
    rw [yes ha hn, yes hb hn, if_pos hn, findS_map hw hn, show sd o n = (findS o n, (true, ())) from by unfold sd; rw [hn]]
    exact step_mix hbe (be ha _ hbe) (be hb _ hbe) (be hw _ hbe) hm.2 ((ha _).1.trans hm.2) ((hb _).1.trans hm.2) ((hw _).1.trans hm.2) (h _)
  · have no : ∀ {g : Elem → Elem}, Lik g → sd (o.map g) n = (Elem.z, (false, ())) := fun hg => sd_no (by rw [hasN_map hg]; simpa using hn)
    rw [no ha, no hb, if_neg hn]
    exact (stepP1 (.inl rfl)).trans rfl
theorem lik_at (n : Int) {f : Elem → Elem} (hf : Lik f) : Lik (atN n f) := fun e => by
  unfold atN
  by_cases h : e.1 = n
  · rw [if_pos h]; exact hf e
  · rw [if_neg h]; exact ⟨rfl, rfl, rfl, rfl, rfl, rfl⟩
theorem lik_O (q : Int) : Lik (mixO q) := fun e => ⟨rfl, rfl, rfl, rfl, rfl, rfl⟩
theorem lik_G (s : ByteArray) : Lik (mixG s) := fun e => ⟨rfl, rfl, rfl, rfl, rfl, rfl⟩
theorem lik_OG (s : ByteArray) (q : Int) : Lik (fun e => mixG s (mixO q e)) := fun e => ⟨rfl, rfl, rfl, rfl, rfl, rfl⟩
theorem b2_mix {x : Elem} {q : Int} {s : ByteArray} (h : b2S x = false) (hs : x.2.1 = 5 ∨ s = noStr) : b2S (mixG s (mixO q x)) = false := by
  by_cases h5 : x.2.1 = 5
  · unfold b2S at h ⊢
    show (decide (x.2.1 < 1) || (decide (x.2.1 > 5) || (((x.2.1 != 5) && endsB (mixG s (mixO q x))) || (((x.2.1 == 5) && ((x.2.2.1 != 0) || !(sE (nmS x)))) || (decide (x.2.1 > 2) && !(sE (nmS x))))))) = false
    rw [show (x.2.1 != 5) = false from by simp [h5], Bool.false_and] at h ⊢
    exact h
  · rcases hs with hs | hs
    · exact (h5 hs).elim
    · have he : endsB x = false := by
        unfold b2S at h
        rw [show (x.2.1 != 5) = true from by simpa using h5, Bool.true_and] at h
        simp only [Bool.or_eq_false_iff] at h
        exact h.2.2.1
      have hg : x.2.2.2.2.2.2.2.2.1 = noStr := by
        unfold endsB at he
        simp only [Bool.or_eq_false_iff, Bool.not_eq_false', sE_dec, decide_eq_true_iff] at he
        exact he.2.2.2.1
      have e : endsB (mixG s (mixO q x)) = endsB x := by
        unfold endsB mixG mixO
        rw [hs, ← hg]
      unfold b2S at h ⊢
      rw [e]
      exact h
theorem rightE_mix {x : Elem} {q : Int} {s : ByteArray} (h : rightE x = true) (hq : 0 ≤ q ∧ q ≤ 1048576) (hs : s.size ≤ 12) : rightE (mixG s (mixO q x)) = true := by
  unfold rightE mixG mixO at *
  have h1 : okN q = true := by unfold okN; rw [decide_eq_false (by omega), decide_eq_false (by omega)]; rfl
  have h2 : okT s = true := by unfold okT; rw [decide_eq_false (by omega)]; rfl
  simp only [List.all_cons, List.all_nil, Bool.and_true, h1, h2, Bool.true_and] at h ⊢
  simp only [Bool.and_eq_true] at h ⊢
  obtain ⟨a1, ⟨a2, a3, a4, a5⟩, a6, a7, a8, a9⟩ := h
  exact ⟨a1, ⟨a2, a4, a5⟩, a6, a7, a9⟩
theorem fields_merge {o : List Elem} (ho : KpO o) {i : Nat} (hi : i < o.length) (q : Int) (s : ByteArray) (hq : 100 ≤ q ∧ q ≤ 1048576) (hz : s.size ≤ 12) (hs : o[i].2.1 = 5 ∨ s = noStr) :
    KpX (o.set i (mixG s (mixO q o[i]))) ∧ mergeS o (o.set i (mixO q o[i])) (o.set i (mixG s o[i])) = (o.set i (mixG s (mixO q o[i])), []) := by
  have so := kpX_ris ho.1
  have uniq : ∀ e : Elem, e ∈ o → e.1 = o[i].1 → e = o[i] := fun e he h => ris_uniq so he (List.getElem_mem hi) h
  have hbx := (check_all ho.1.1).2
  rw [set_map so hi (fun e => mixG s (mixO q e)), set_map so hi (mixO q), set_map so hi (mixG s)]
  have kw : KpX (o.map (atN o[i].1 fun e => mixG s (mixO q e))) := by
    refine kpX_map (lik_at _ (lik_OG s q)) ho.1 (fun e he => ?_) (fun e he => ?_) (fun e he => ?_)
    · unfold atN
      by_cases h : e.1 = o[i].1
      · rw [if_pos h]; exact rightE_mix (rightE_of ho.1 he) ⟨by omega, hq.2⟩ hz
      · rw [if_neg h]; exact rightE_of ho.1 he
    · have hb := hbx 2 (by decide) e he
      unfold breaksS at hb
      rw [if_pos rfl] at hb
      unfold atN
      by_cases h : e.1 = o[i].1
      · rw [if_pos h]
        exact b2_mix hb (by rw [uniq e he h]; exact hs)
      · rw [if_neg h]; exact hb
    · have hb := hbx 7 (by decide) e he
      unfold breaksS at hb
      rw [if_neg (by decide), if_neg (by decide), if_neg (by decide), if_neg (by decide), if_neg (by decide), if_pos rfl] at hb
      unfold b7S at hb ⊢
      rw [((lik_at o[i].1 (lik_OG s q)) e).2.1]
      cases hk : (e.2.1 == 5) with
      | false => rfl
      | true =>
        rw [hk, Bool.true_and] at hb
        rw [Bool.true_and, List.any_map]
        rw [List.any_eq_false] at hb ⊢
        intro x hx
        have hb := hb x hx
        rw [Bool.not_eq_true] at hb ⊢
        show likeB (atN o[i].1 (fun e => mixG s (mixO q e)) e) (atN o[i].1 (fun e => mixG s (mixO q e)) x) = false
        unfold likeB at hb ⊢
        have l1 := (lik_at o[i].1 (lik_OG s q)) e
        have l2 := (lik_at o[i].1 (lik_OG s q)) x
        rw [l2.1, l1.1, l2.2.1, l2.2.2.2.2.1, l1.2.2.2.2.1]
        by_cases h1 : e.1 = o[i].1
        · by_cases h2 : x.1 = o[i].1
          · rw [show (x.1 != e.1) = false from by simp [h1, h2]]; simp
          · have ho2 := ho.2 x hx
            have : ((atN o[i].1 (fun e => mixG s (mixO q e)) x).2.2.2.1 == (atN o[i].1 (fun e => mixG s (mixO q e)) e).2.2.2.1) = false := by
              unfold atN
              rw [if_pos h1, if_neg h2]
              show (x.2.2.2.1 == q) = false
              rw [beq_eq_false_iff_ne]; omega
            rw [this]; simp
        · by_cases h2 : x.1 = o[i].1
          · have ho2 := ho.2 e he
            have : ((atN o[i].1 (fun e => mixG s (mixO q e)) x).2.2.2.1 == (atN o[i].1 (fun e => mixG s (mixO q e)) e).2.2.2.1) = false := by
              unfold atN
              rw [if_neg h1, if_pos h2]
              show (q == e.2.2.2.1) = false
              rw [beq_eq_false_iff_ne]; omega
            rw [this]; simp
          · unfold atN
            rw [if_neg h1, if_neg h2]
            exact hb
  refine ⟨kw, merge_mix ho.1 (lik_at _ (lik_O q)) (lik_at _ (lik_G s)) (lik_at _ (lik_OG s q)) kw fun e f hf => ?_⟩
  unfold atN
  by_cases h : e.1 = o[i].1
  · rw [if_pos h, if_pos h, if_pos h]
    by_cases h7 : f = 7
    · subst h7
      exact .inl ⟨val_mixO q e (by omega) (by omega), rfl⟩
    · exact .inr ⟨val_mixG s e hf h7, val_mixG s _ hf h7⟩
  · rw [if_neg h, if_neg h, if_neg h]
    exact .inl ⟨rfl, rfl⟩
theorem ixN_get' {o : List Elem} {i : Nat} (hi : i < o.length) : ixN Elem.z o i = o[i] := by simp [ixN, List.getD, List.getElem?_eq_getElem hi]
theorem ixN_set {o : List Elem} {i : Nat} (hi : i < o.length) (e : Elem) : ixN Elem.z (o.set i e) i = e := by
  rw [ixN_get' (by simpa using hi)]; simp
theorem ix_set {o : List Elem} {i : Nat} (hi : i < o.length) (e : Elem) : ix Elem.z (o.set i e) (i : Int) = e := by
  rw [ix_nat _ _ _ (by simpa using hi)]; simp
theorem mf_j53 (K : Bool → Prop) (r : Int) (hr : 0 ≤ r ∧ r < 256) {o : List Elem} (ho : KpO o) {i : Nat} (hi : i < o.length) (s : ByteArray) (hz : s.size ≤ 12) (hs : o[i].2.1 = 5 ∨ s = noStr) (h : K true) :
    law14.MergeFields.j53 K r o (i : Int) (o.set i (mixO (100 + r) o[i])) (o.set i (mixG s o[i])) := by
  obtain ⟨kw, hm⟩ := fields_merge ho hi (100 + r) s (by omega) hz hs
  have lo := kpX_len ho.1
  have so := kpX_ris ho.1
  unfold law14.MergeFields.j53
  simp only [Int.toNat_natCast, ixN_get' hi, ixN_set hi, ix_set hi, List.length_set, List.set_set]
  rw [wrap_small (n := r) (by omega) (by omega), wrap_small (n := 100 + r) (by omega) (by omega)]
  refine merge_law _ _ _ _ so (ris_set so hi rfl) (ris_set so hi rfl) (by omega) (by simp; omega) (by simp; omega) ?_
  rw [hm]
  refine ⟨⟨by omega, by omega⟩, ⟨by omega, by omega⟩, hi, ⟨by omega, by omega⟩, ⟨by omega, by omega⟩, hi, ?_⟩
  rw [show ((0 : Int) == 0) = true from rfl, br_true]
  rw [show ((((([] : List Conflict).length) : Nat) : Int) == (0 : Int)) = true from rfl, br_true]
  refine same_law _ _ _ (by show (o.set i _).length ≤ _; simp; omega) ?_
  rw [decide_eq_true (by rfl)]
  exact h
theorem mergeFields (by_ : Nat → Nat) (l : List Act) (at_ r : Int) (s : ByteArray) (w0 : Wf by_ (.sl 78 tAct) l) (w1 : Wf by_ (.int .u8) at_) (w2 : Wf by_ (.int .u8) r) (w3 : Wf by_ .str s) (K : Bool → Prop) (h : K true) : law14.MergeFields l at_ r s K := by
  have ha : 0 ≤ at_ ∧ at_ < 256 := by
    have h1 : (0 : Int) ≤ at_ := w1.1
    have h2 : at_ ≤ 255 := w1.2
    omega
  have hr : 0 ≤ r ∧ r < 256 := by
    have h1 : (0 : Int) ≤ r := w2.1
    have h2 : r ≤ 255 := w2.2
    omega
  have gate : ∀ t : Bool, (t = false → l.length ≤ 24 ∧ s.size ≤ 12) → law14.MergeFields.j4 K l at_ r s t := fun t ht => by
    unfold law14.MergeFields.j4
    cases t with
    | true => rw [br_true]; exact awake14_law _ h
    | false =>
      rw [br_false]
      obtain ⟨h1, h2⟩ := ht rfl
      refine makeO_law _ _ (by omega) fun o ho hol => ?_
      by_cases hz : o.length = 0
      · rw [show (((o.length : Nat) : Int) == 0) = true from by simp [hz], br_true]
        exact h
      rw [show (((o.length : Nat) : Int) == 0) = false from by rw [beq_eq_false_iff_ne]; omega, br_false]
      rw [wrap_small (n := at_) (by omega) (by omega)]
      have t1 : 0 ≤ Int.tmod at_ ((o.length : Nat) : Int) := Int.tmod_nonneg _ ha.1
      have t2 : Int.tmod at_ ((o.length : Nat) : Int) < ((o.length : Nat) : Int) := Int.tmod_lt_of_pos _ (by omega)
      obtain ⟨i, hi⟩ : ∃ i : Nat, Int.tmod at_ ((o.length : Nat) : Int) = (i : Int) := ⟨_, (Int.toNat_of_nonneg t1).symm⟩
      rw [hi] at t1 t2 ⊢
      have hlt : i < o.length := by omega
      simp only [Int.toNat_natCast, ixN_get' hlt, ixN_set hlt, ix_nat _ _ _ hlt, List.length_set, List.set_set]
      rw [wrap_small (n := r) (by omega) (by omega), wrap_small (n := 100 + r) (by omega) (by omega)]
      refine ⟨by omega, ⟨by omega, by omega⟩, ⟨by omega, by omega⟩, ⟨t1, t2⟩, hlt, ⟨t1, t2⟩, hlt, ⟨t1, t2⟩, ?_⟩
      by_cases h5 : o[i].2.1 = 5
      · rw [show (o[i].2.1 != 5) = false from by simp [h5], br_false]
        exact mf_j53 K r hr ho hlt s h2 (.inl h5) h
      · rw [show (o[i].2.1 != 5) = true from by simpa using h5, br_true]
        exact ⟨⟨t1, t2⟩, hlt, mf_j53 K r hr ho hlt noStr (by decide) (.inr rfl) h⟩
  unfold law14.MergeFields
  refine awake14_law _ ?_
  rw [Bool.not_true, br_false]
  by_cases h1 : l.length > 24
  · rw [decide_eq_true (by omega), br_true]
    exact gate true fun h => by cases h
  rw [decide_eq_false (by omega), br_false]
  refine gate _ fun hb => ⟨by omega, ?_⟩
  have := of_decide_eq_false hb
  omega
end Go.Iw
