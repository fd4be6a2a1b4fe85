/- JudgeMerges: the plain law. -/
import Derived.Test.YtdniiaomhojlhaaDQs
namespace Go.Iw
open Go.Iv
set_option linter.unusedVariables false
set_option linter.unusedSimpArgs false
set_option linter.unusedSectionVars false

theorem sd_no {c : List Elem} {n : Int} (h : hasN n c = false) : sd c n = (Elem.z, (false, ())) := by
  rcases at_cases n c with ⟨_, e⟩ | ⟨i, hi, _, e⟩
  · exact e
  · have := congrArg (fun s : side => s.2.1) e
    have h2 : hasN n c = true := this
    rw [h] at h2; cases h2
theorem sd_yes {c : List Elem} (hs : Ris c) {e : Elem} (he : e ∈ c) {n : Int} (hn : e.1 = n) : sd c n = (e, (true, ())) := by
  unfold sd
  rw [findS_eq hs he hn, hasN_iff.2 ⟨e, he, hn⟩]
theorem step_num (n : Int) (X Y Z : side) (hy : SdOk n Y) (hz : SdOk n Z) : ∀ e ∈ (stepP n X Y Z).1, e.1 = n ∧ BE e := by
  have one : ∀ s : side, SdOk n s → ∀ e ∈ (if s.2.1 = true then [s.1] else []), e.1 = n ∧ BE e := fun s hs e he => by
    split at he
    · rename_i h
      simp at he
      rw [he]; exact ⟨(hs.1 h).2, (hs.1 h).1⟩
    · simp at he
  intro e he
  by_cases h1 : Y = Z ∨ Z = X
  · rw [stepP1 h1] at he; exact one Y hy e he
  by_cases h2 : Y = X
  · rw [stepP2 h1 h2] at he; exact one Z hz e he
  by_cases h3 : Y.2.1 ≠ Z.2.1
  · rw [stepP3 h1 h2 h3] at he; simp at he
  rw [stepP4 h1 h2 h3] at he
  split at he
  · simp at he
  · simp at he
    rw [he]
    exact ⟨putF_id _ _ _ _ _, putF_BE _ _ _ _ _ ⟨by show (0 : Int) ≤ 0; omega, by show (0 : Int) ≤ 255; omega⟩⟩
theorem out_ris {o a b : List Elem} (ha : AllB a) (hb : AllB b) {ids : List Int} (hi : RisI ids) : Ris (outM o a b ids) := by
  refine List.pairwise_flatMap.2 ⟨fun n _ => ?_, ?_⟩
  · have hl := (stepP_len n (sd o n) (sd a n) (sd b n)).1
    show List.Pairwise _ (stepP n (sd o n) (sd a n) (sd b n)).1
    generalize (stepP n (sd o n) (sd a n) (sd b n)).1 = l at hl ⊢
    match l, hl with
    | [], _ => exact List.Pairwise.nil
    | [e], _ => exact List.pairwise_singleton _ _
    | _ :: _ :: _, hl => simp at hl
  · refine List.Pairwise.imp ?_ hi
    intro p q hpq u hu v hv
    have h1 := (step_num p _ _ _ (sd_ok ha p) (sd_ok hb p) u hu).1
    have h2 := (step_num q _ _ _ (sd_ok ha q) (sd_ok hb q) v hv).1
    rw [h1, h2]; exact hpq
theorem out_sd {o a b : List Elem} (ha : AllB a) (hb : AllB b) {ids : List Int} (hi : RisI ids) {n : Int} (hn : n ∈ ids) : sd (outM o a b ids) n = sdL (stepP n (sd o n) (sd a n) (sd b n)).1 := by
  have hl := (stepP_len n (sd o n) (sd a n) (sd b n)).1
  have hm : ∀ x, x ∈ outM o a b ids ↔ ∃ q, q ∈ ids ∧ x ∈ (stepP q (sd o q) (sd a q) (sd b q)).1 := fun x => List.mem_flatMap
  have hnum := step_num n (sd o n) (sd a n) (sd b n) (sd_ok ha n) (sd_ok hb n)
  cases hs : (stepP n (sd o n) (sd a n) (sd b n)).1 with
  | nil =>
    refine sd_no (hasN_no.2 fun x hx e => ?_)
    obtain ⟨q, hq, hx⟩ := (hm x).1 hx
    have hq2 := (step_num q _ _ _ (sd_ok ha q) (sd_ok hb q) x hx).1
    have : q = n := hq2.symm.trans e
    subst this
    rw [hs] at hx; simp at hx
  | cons e r =>
    have he : e ∈ outM o a b ids := (hm e).2 ⟨n, hn, by rw [hs]; simp⟩
    exact sd_yes (out_ris ha hb hi) he (hnum e (by rw [hs]; simp)).1
theorem merge_parts {o a b : List Elem} (h : (mergeS o a b).2 = []) : cnfM o a b (idsS o a b) = [] ∧ (mergeS o a b).1 = outM o a b (idsS o a b) ∧ (checkS (outM o a b (idsS o a b))).1 = 0 := by
  unfold mergeS at h ⊢
  unfold endS at h ⊢
  by_cases hc : cnfM o a b (idsS o a b) = []
  · rw [if_pos hc] at h ⊢
    by_cases hz : (checkS (outM o a b (idsS o a b))).1 = 0
    · rw [if_pos hz]; exact ⟨hc, rfl, hz⟩
    · rw [if_neg hz] at h; cases h
  · rw [if_neg hc] at h; exact (hc h).elim
theorem merge_kp {o a b : List Elem} (ha : AllB a) (hb : AllB b) (h : (mergeS o a b).2 = []) : KpX (mergeS o a b).1 := by
  obtain ⟨h1, h2, h3⟩ := merge_parts h
  rw [h2]
  refine ⟨check_zero h3, fun x hx => ?_⟩
  obtain ⟨q, hq, hx⟩ := List.mem_flatMap.1 hx
  exact (step_num q _ _ _ (sd_ok ha q) (sd_ok hb q) x hx).2
theorem merge_cell {o a b : List Elem} (ho : AllB o) (ha : AllB a) (hb : AllB b) (h : (mergeS o a b).2 = []) (n : Int) (f : Nat) (hf : f < 9) : cellS (mergeS o a b).1 n f = wantC (cellS o n f) (cellS a n f) (cellS b n f) := by
  obtain ⟨h1, h2, h3⟩ := merge_parts h
  rw [h2, cellS_sd, cellS_sd, cellS_sd, cellS_sd]
  by_cases hn : n ∈ idsS o a b
  · have hi : RisI (idsS o a b) := sortI_ris _
    rw [out_sd ha hb hi hn]
    exact step_cell n _ _ _ (sd_ok ho n) (sd_ok ha n) (sd_ok hb n) (List.flatMap_eq_nil_iff.1 h1 n hn) f hf
  · have no : ∀ c : List Elem, c ∈ [o, a, b] → sd c n = (Elem.z, (false, ())) := fun c hc => sd_no (by
      cases hq : hasN n c with
      | false => rfl
      | true => exact (hn ((ids_mem _ n).2 ⟨c, hc, hq⟩)).elim)
    rw [no o (by simp), no a (by simp), no b (by simp), want_both]
    rw [sd_no (hasN_no.2 fun x hx e => ?_)]
    obtain ⟨q, hq, hx⟩ := List.mem_flatMap.1 hx
    have hq2 := (step_num q _ _ _ (sd_ok ha q) (sd_ok hb q) x hx).1
    have : q = n := hq2.symm.trans e
    subst this
    exact hn hq
theorem merged_yes {o a b : List Elem} (ho : AllB o) (ha : AllB a) (hb : AllB b) (h : (mergeS o a b).2 = []) : mergedS o a b (mergeS o a b).1 = true := mergedS_iff.2 fun n _ k hk => merge_cell ho ha hb h n k hk
theorem merged_only {o a b m : List Elem} (ho : AllB o) (ha : AllB a) (hb : AllB b) (h : (mergeS o a b).2 = []) (sm : Ris m) (bm : AllB m) (hm : mergedS o a b m = true) : (mergeS o a b).1 = m := by
  have hk := merge_kp ha hb h
  have key : ∀ n, sd (mergeS o a b).1 n = sd m n := fun n => by
    have hc : ∀ k : Nat, k < 9 → cellS (mergeS o a b).1 n k = cellS m n k := fun k hk => by
      by_cases hn : hasN n o = true ∨ hasN n a = true ∨ hasN n b = true ∨ hasN n m = true
      · rw [merge_cell ho ha hb h n k hk, mergedS_iff.1 hm n hn k hk]
      · have no : ∀ c : List Elem, hasN n c ≠ true → sd c n = (Elem.z, (false, ())) := fun c hc => sd_no (by rw [← Bool.not_eq_true]; exact hc)
        rw [merge_cell ho ha hb h n k hk, cellS_sd, cellS_sd, cellS_sd, cellS_sd, no o (fun e => hn (.inl e)), no a (fun e => hn (.inr (.inl e))), no b (fun e => hn (.inr (.inr (.inl e)))), no m (fun e => hn (.inr (.inr (.inr e)))), want_both]
    have h1 := sd_ok hk.2 n
    have h2 := sd_ok bm n
    have e1 : (sd (mergeS o a b).1 n).2.1 = (sd m n).2.1 := congrArg Prod.snd (hc 0 (by omega))
    have e2 : (sd (mergeS o a b).1 n).1 = (sd m n).1 := by
      cases hq : (sd m n).2.1 with
      | false => rw [h1.2 (e1.trans hq), h2.2 hq]
      | true =>
        obtain ⟨b1, n1⟩ := h1.1 (e1.trans hq)
        obtain ⟨b2, n2⟩ := h2.1 hq
        exact elem_ext b1 b2 (n2.trans n1.symm) fun f hf => congrArg Prod.fst (hc f hf)
    generalize sd (mergeS o a b).1 n = A at e1 e2 ⊢
    generalize sd m n = B at e1 e2 ⊢
    obtain ⟨x, p, _⟩ := A
    obtain ⟨y, q, _⟩ := B
    cases e1; cases e2; rfl
  have mem : ∀ c d : List Elem, Ris c → (∀ n, sd c n = sd d n) → ∀ x, x ∈ c → x ∈ d := fun c d sc hcd x hx => by
    have h1 := sd_yes sc hx rfl
    rw [hcd] at h1
    have h2 : hasN x.1 d = true := congrArg (fun s : side => s.2.1) h1
    have h3 : findS d x.1 = x := congrArg (fun s : side => s.1) h1
    rw [← h3]; exact (findS_mem h2).1
  exact ris_ext (kpX_ris hk) sm fun x => ⟨mem _ _ (kpX_ris hk) key x, mem _ _ sm (fun n => (key n).symm) x⟩
theorem confT_nil (n : Int) (Y Z : Elem) : ∀ (l : List Int), (∀ f ∈ l, valL Y f = valL Z f) → confT n Y Z l = []
  | [], _ => rfl
  | f :: r, h => by
    unfold confT
    rw [if_neg (by simpa using h f (by simp)), List.nil_append]
    exact confT_nil n Y Z r fun g hg => h g (by simp [hg])
theorem confF_nil (n : Int) (X Y Z : Elem) : ∀ (l : List Int), (∀ f ∈ l, apart3 X Y Z f = false) → confF n X Y Z l = []
  | [], _ => rfl
  | f :: r, h => by
    unfold confF
    rw [if_neg (by rw [h f (by simp)]; simp), List.nil_append]
    exact confF_nil n X Y Z r fun g hg => h g (by simp [hg])
theorem fields_nat {g : Int} (h : g ∈ fields9 0 9) : ∃ f : Nat, f < 9 ∧ g = (f : Int) := by
  obtain ⟨f, hf, e⟩ := List.mem_map.1 h
  exact ⟨f, by simp [List.mem_range'] at hf; omega, e.symm⟩
theorem side_same {A B : side} (e1 : A.1 = B.1) (e2 : A.2.1 = B.2.1) : A = B := by
  obtain ⟨a, p, _⟩ := A
  obtain ⟨b, q, _⟩ := B
  cases e1; cases e2; rfl
theorem side_diff {n : Int} {A B : side} (ha : SdOk n A) (hb : SdOk n B) (h1 : A.2.1 = true) (h2 : B.2.1 = true) (hne : A ≠ B) : ∃ f : Nat, f < 9 ∧ valL A.1 (f : Int) ≠ valL B.1 (f : Int) := by
  refine Classical.byContradiction fun hn => hne (side_same ?_ (h1.trans h2.symm))
  refine elem_ext (ha.1 h1).1 (hb.1 h2).1 ((hb.1 h2).2.trans (ha.1 h1).2.symm) fun f hf => ?_
  exact Classical.byContradiction fun he => hn ⟨f, hf, he⟩
/-- WHERE THE SIDES PART there is a cell of which all three are unlike. -/
theorem parted_cell (n : Int) (X Y Z : side) (hx : SdOk n X) (hy : SdOk n Y) (hz : SdOk n Z) (hc : (stepP n X Y Z).2 ≠ []) : ∃ f : Nat, f < 9 ∧ cellO Y f ≠ cellO X f ∧ cellO Z f ≠ cellO X f ∧ cellO Y f ≠ cellO Z f := by
  have ok : ∀ {A B : side} {f : Nat}, A.2.1 ≠ B.2.1 → cellO A f ≠ cellO B f := fun h e => h (congrArg Prod.snd e)
  have vl : ∀ {A B : side} {f : Nat}, valL A.1 (f : Int) ≠ valL B.1 (f : Int) → cellO A f ≠ cellO B f := fun h e => h (congrArg Prod.fst e)
  have none : ∀ {A B : side}, SdOk n A → SdOk n B → A.2.1 = false → B.2.1 = false → A = B := fun ha hb h1 h2 => side_same ((ha.2 h1).trans (hb.2 h2).symm) (h1.trans h2.symm)
  have h1 : ¬(Y = Z ∨ Z = X) := fun h => hc (by rw [stepP1 h])
  have h2 : ¬Y = X := fun h => hc (by rw [stepP2 h1 h])
  by_cases h3 : Y.2.1 ≠ Z.2.1
  · cases hq : Y.2.1 with
    | true =>
      have hr : Z.2.1 = false := by
        cases hr : Z.2.1 with
        | false => rfl
        | true => exact (h3 (hq.trans hr.symm)).elim
      have hp : X.2.1 = true := by
        cases hp : X.2.1 with
        | true => rfl
        | false => exact (h1 (.inr (none hz hx hr hp))).elim
      obtain ⟨f, hf, hv⟩ := side_diff hy hx hq hp h2
      exact ⟨f, hf, vl hv, ok (by rw [hr, hp]; simp), ok h3⟩
    | false =>
      have hr : Z.2.1 = true := by
        cases hr : Z.2.1 with
        | true => rfl
        | false => exact (h3 (hq.trans hr.symm)).elim
      have hp : X.2.1 = true := by
        cases hp : X.2.1 with
        | true => rfl
        | false => exact (h2 (none hy hx hq hp)).elim
      obtain ⟨f, hf, hv⟩ := side_diff hz hx hr hp (fun e => h1 (.inr e))
      exact ⟨f, hf, ok (by rw [hq, hp]; simp), vl hv, ok h3⟩
  rw [stepP4 h1 h2 h3] at hc
  have h3 : Y.2.1 = Z.2.1 := Classical.not_not.1 h3
  have hq : Y.2.1 = true := by
    cases hq : Y.2.1 with
    | true => rfl
    | false => exact (h1 (.inl (none hy hz hq (h3 ▸ hq)))).elim
  have hr : Z.2.1 = true := h3 ▸ hq
  by_cases h4 : X.2.1 = false
  · obtain ⟨f, hf, hv⟩ := side_diff hy hz hq hr (fun e => h1 (.inl e))
    exact ⟨f, hf, ok (by rw [hq, h4]; simp), ok (by rw [hr, h4]; simp), vl hv⟩
  · rw [if_neg h4] at hc
    refine Classical.byContradiction fun hn => hc (confF_nil n _ _ _ _ fun g hg => ?_)
    obtain ⟨f, hf, rfl⟩ := fields_nat hg
    unfold apart3
    refine decide_eq_false fun ⟨e1, e2, e3⟩ => hn ⟨f, hf, vl e2, vl e3, vl e1⟩
theorem neC_true {u v : Val × Bool} (h : u ≠ v) : neC u v = true := by
  cases hn : neC u v with
  | true => rfl
  | false => exact (h ((neC_iff u v).1 hn)).elim
theorem parted_no {o a b : List Elem} (ho : AllB o) (ha : AllB a) (hb : AllB b) (h : cnfM o a b (idsS o a b) ≠ []) : mergedS o b a a = false ∧ mergedS o a b b = false := by
  have hex : ∃ n, n ∈ idsS o a b ∧ (stepP n (sd o n) (sd a n) (sd b n)).2 ≠ [] := by
    refine Classical.byContradiction fun hn => h (List.flatMap_eq_nil_iff.2 fun n hm => ?_)
    exact Classical.byContradiction fun he => hn ⟨n, hm, he⟩
  obtain ⟨n, hm, hc⟩ := hex
  obtain ⟨f, hf, e1, e2, e3⟩ := parted_cell n _ _ _ (sd_ok ho n) (sd_ok ha n) (sd_ok hb n) hc
  rw [← cellS_sd, ← cellS_sd] at e1 e2 e3
  have hw1 : wantC (cellS o n f) (cellS b n f) (cellS a n f) = cellS b n f := by unfold wantC; rw [neC_true e2, cond_true]
  have hw2 : wantC (cellS o n f) (cellS a n f) (cellS b n f) = cellS a n f := by unfold wantC; rw [neC_true e1, cond_true]
  obtain ⟨c, hcm, hcn⟩ := (ids_mem [o, a, b] n).1 hm
  have hor : hasN n o = true ∨ hasN n a = true ∨ hasN n b = true := by
    simp at hcm
    rcases hcm with rfl | rfl | rfl
    · exact .inl hcn
    · exact .inr (.inl hcn)
    · exact .inr (.inr hcn)
  constructor
  · rw [← Bool.not_eq_true]
    intro hg
    have := mergedS_iff.1 hg n (by rcases hor with h | h | h; exact .inl h; exact .inr (.inr (.inl h)); exact .inr (.inl h)) f hf
    rw [hw1] at this
    exact e3 this
  · rw [← Bool.not_eq_true]
    intro hg
    have := mergedS_iff.1 hg n (by rcases hor with h | h | h; exact .inl h; exact .inr (.inl h); exact .inr (.inr (.inl h))) f hf
    rw [hw2] at this
    exact e3 this.symm
theorem clsR_big (r : Int) : 7 ≤ clsR r := by unfold clsR; repeat' split <;> omega
theorem judgeMerges (by_ : Nat → Nat) (o a b x : List Act) (w0 : Wf by_ (.sl 78 tAct) o) (w1 : Wf by_ (.sl 78 tAct) a) (w2 : Wf by_ (.sl 78 tAct) b) (w3 : Wf by_ (.sl 78 tAct) x) (K : Bool → Prop) (h : K true) : law23.JudgeMerges o a b x K := by
  have ha : ∀ e : Act, e ∈ a → ActOk e := fun e he => (w1.1 e he).2.1
  have hb : ∀ e : Act, e ∈ b → ActOk e := fun e he => (w2.1 e he).2.1
  have hx : ∀ e : Act, e ∈ x → ActOk e := fun e he => (w3.1 e he).2.1
  have gate : ∀ t : Bool, (t = false → o.length ≤ 24 ∧ a.length ≤ 24 ∧ b.length ≤ 24 ∧ x.length ≤ 12) → law23.JudgeMerges.j4 K o a b x t := fun t ht => by
    unfold law23.JudgeMerges.j4
    cases t with
    | true => rw [br_true]; exact awake23_law _ h
    | false =>
      rw [br_false]
      obtain ⟨h1, h2, h3, h4⟩ := ht rfl
      refine makeX_law _ _ (by omega) fun p hp _ => changeX_law _ _ _ (by omega) ha hp fun q hq => changeX_law _ _ _ (by omega) hb hp fun r hr => ?_
      have lp := kpX_len hp
      have lq := kpX_len hq
      have lr := kpX_len hr
      have sp := kpX_ris hp
      have sq := kpX_ris hq
      have sr := kpX_ris hr
      refine merge_law _ _ _ _ sp sq sr (by omega) (by omega) (by omega) ?_
      rw [show ((0 : Int) != 0) = false from rfl, br_false]
      by_cases hl : (mergeS p q r).2 = []
      · rw [decide_eq_false (by rw [hl]; simp), br_false]
        have hm := merge_kp hq.2 hr.2 hl
        have y1 := merged_yes hp.2 hq.2 hr.2 hl
        have ht := merge_turn p q r
        have y2 : mergedS p r q (mergeS p q r).1 = true := by
          have := merged_yes hp.2 hr.2 hq.2 (by rw [← ht]; exact hl)
          rw [← ht] at this; exact this
        have only : ∀ n, KpX n → mergedS p q r n = decide ((mergeS p q r).1 = n) := fun n hn => by
          rw [Bool.eq_iff_iff, decide_eq_true_iff]
          exact ⟨fun e => merged_only hp.2 hq.2 hr.2 hl (kpX_ris hn) hn.2 e, fun e => by rw [← e]; exact y1⟩
        generalize (mergeS p q r).1 = m at hm y1 y2 only ⊢
        have lm := kpX_len hm
        refine changeX_law _ _ _ (by omega) hx hm fun n hn => ?_
        have ln := kpX_len hn
        refine Merged_law sp sq sr (kpX_ris hm) (by omega) (by omega) (by omega) (by omega) _ ?_
        rw [y1, br_true]
        refine Merged_law sp sr sq (kpX_ris hm) (by omega) (by omega) (by omega) (by omega) _ ?_
        rw [y2, br_true]
        refine Merged_law sp sq sr (kpX_ris hn) (by omega) (by omega) (by omega) (by omega) _ ?_
        refine same_law _ _ _ (by omega) ?_
        rw [only n hn]
        cases decide (m = n) with
        | true => exact h
        | false => exact h
      · have hpos : 0 < (mergeS p q r).2.length := List.length_pos_iff.2 hl
        rw [decide_eq_true (by omega), br_true]
        have fin : ∀ one other : Bool, ((mergeS p q r).2[0].1 < 7 → one = false ∧ other = false) → law23.JudgeMerges.j24 K (mergeS p q r).2 one other := fun one other hoo => by
          unfold law23.JudgeMerges.j24
          refine ⟨⟨by omega, by omega⟩, ?_⟩
          rw [show ix Conflict.z (mergeS p q r).2 (0 : Int) = (mergeS p q r).2[0] from ix_nat _ _ 0 hpos]
          by_cases h7 : (mergeS p q r).2[0].1 ≥ 7
          · rw [decide_eq_true h7, br_true]; exact h
          · rw [decide_eq_false h7, br_false]
            obtain ⟨rfl, rfl⟩ := hoo (by omega)
            exact h
        have no : (mergeS p q r).2[0].1 < 7 → mergedS p r q q = false ∧ mergedS p q r r = false := fun hlt => by
          refine parted_no hp.2 hq.2 hr.2 fun hc => ?_
          have e : (mergeS p q r).2 = [(clsR (checkS (outM p q r (idsS p q r))).1, ((checkS (outM p q r (idsS p q r))).2, ((-(1 : Int)), ())))] := by
            have hl' := hl
            unfold mergeS endS at hl' ⊢
            rw [if_pos hc] at hl' ⊢
            by_cases hz : (checkS (outM p q r (idsS p q r))).1 = 0
            · rw [if_pos hz] at hl'; exact (hl' rfl).elim
            · rw [if_neg hz]
          have h7 := clsR_big (checkS (outM p q r (idsS p q r))).1
          simp only [e, List.getElem_cons_zero] at hlt
          omega
        have j22 : ∀ one : Bool, ((mergeS p q r).2[0].1 < 7 → one = false) → law23.JudgeMerges.j22 K p q r (mergeS p q r).2 one := fun one ho => by
          unfold law23.JudgeMerges.j22
          refine Merged_law sp sq sr sr (by omega) (by omega) (by omega) (by omega) _ ?_
          cases h3 : mergedS p q r r with
          | false => rw [br_false]; exact fin _ _ fun hlt => ⟨ho hlt, rfl⟩
          | true =>
            rw [br_true]
            refine Merged_law sp sr sq sr (by omega) (by omega) (by omega) (by omega) _ ?_
            refine fin _ _ fun hlt => ?_
            have := (no hlt).2
            rw [h3] at this; cases this
        refine Merged_law sp sq sr sq (by omega) (by omega) (by omega) (by omega) _ ?_
        cases h3 : mergedS p q r q with
        | false => rw [br_false]; exact j22 _ fun _ => rfl
        | true =>
          rw [br_true]
          refine Merged_law sp sr sq sq (by omega) (by omega) (by omega) (by omega) _ ?_
          exact j22 _ fun hlt => (no hlt).1
  unfold law23.JudgeMerges
  refine awake23_law _ ?_
  rw [Bool.not_true, br_false]
  by_cases h1 : o.length > 24
  · rw [decide_eq_true (by omega), br_true]
    exact gate true fun h => by cases h
  rw [decide_eq_false (by omega), br_false]
  by_cases h2 : a.length > 24
  · rw [decide_eq_true (by omega), br_true]
    exact gate true fun h => by cases h
  rw [decide_eq_false (by omega), br_false]
  by_cases h3 : b.length > 24
  · rw [decide_eq_true (by omega), br_true]
    exact gate true fun h => by cases h
  rw [decide_eq_false (by omega), br_false]
  refine gate _ fun hb => ⟨by omega, by omega, by omega, ?_⟩
  have := of_decide_eq_false hb
  omega
end Go.Iw
