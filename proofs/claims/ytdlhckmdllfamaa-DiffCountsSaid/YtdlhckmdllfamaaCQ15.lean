/- Plain laws: the edits between two charts lead there: what is set, and dropped. -/
import Derived.Test.YtdlhckmdllfamaaCQ14
namespace Go.Iw
open Go.Iv
set_option linter.unusedVariables false
set_option linter.unusedSimpArgs false

/-! What is added, and all of it. -/
theorem order_mem {c w : List Elem} (hc : Ris c) (h : okO c w = true) (z : Elem) : z ∈ orderS c w ↔ z ∈ c ∧ hasN z.1 w = false := by
  have hl : leftO w c (orderS c w) = 0 := of_decide_eq_true h
  rw [left0] at hl
  have hadd := addSeq_order c w
  have hno : ∀ (l d : List Elem), AddSeq d l → ∀ z : Elem, z ∈ l → hasN z.1 d = false := by
    intro l
    induction l with
    | nil => intro d _ z hz; simp at hz
    | cons e l ih =>
      intro d hd z hz
      obtain ⟨h1, h2, h3⟩ := hd
      rcases List.mem_cons.1 hz with rfl | hz
      · exact h1
      · have := ih _ h3 z hz
        rw [hasN_put, Bool.or_eq_false_iff] at this
        exact this.1
  constructor
  · intro hz
    exact ⟨sub_order c w z hz, hno _ _ hadd z hz⟩
  · rintro ⟨hz, hw⟩
    have := hl z hz
    unfold nowS at this
    rw [hw, Bool.false_or, hasN_iff] at this
    obtain ⟨x, hx, e⟩ := this
    rw [← ris_uniq hc (sub_order c w x hx) hz e]
    exact hx

/-! Fields. -/
theorem valL_with (e : Elem) (f g : Int) (v : Val) (h : f ≠ g) : valL (withL e f v) g = valL e g := by
  rcases nine f with rfl | rfl | rfl | rfl | rfl | rfl | rfl | rfl | rfl | hk
  case' inr.inr.inr.inr.inr.inr.inr.inr.inr =>
    have : withL e f v = e := by
      unfold withL
      rw [if_neg (by omega), if_neg (by omega), if_neg (by omega), if_neg (by omega), if_neg (by omega), if_neg (by omega), if_neg (by omega), if_neg (by omega), if_neg (by omega)]
    rw [this]
  all_goals
    unfold valL
    rcases nine g with rfl | rfl | rfl | rfl | rfl | rfl | rfl | rfl | rfl | hg
    all_goals first | (exact (h rfl).elim) | rfl | skip
    rw [if_neg (by omega), if_neg (by omega), if_neg (by omega), if_neg (by omega), if_neg (by omega), if_neg (by omega), if_neg (by omega), if_neg (by omega), if_neg (by omega), if_neg (by omega), if_neg (by omega), if_neg (by omega), if_neg (by omega), if_neg (by omega), if_neg (by omega), if_neg (by omega), if_neg (by omega), if_neg (by omega)]
theorem with_same (e : Elem) (f : Int) (h : BE e) : withL e f (valL e f) = e := by
  obtain ⟨e1, e2, e3, e4, e5, e6, e7, e8, e9, e10, _⟩ := e
  rcases nine f with rfl | rfl | rfl | rfl | rfl | rfl | rfl | rfl | rfl | hk
  · have h1 : 0 ≤ e2 ∧ e2 ≤ 255 := h
    have w1 : IntKind.wrap .i64 e2 = e2 := wrap_small (by omega) (by omega)
    have w2 : IntKind.wrap .u8 e2 = e2 := wrap_small_u8 h1.1 h1.2
    simp [withL, valL, w1, w2]
  all_goals try (simp [withL, valL]; done)
  unfold withL
  rw [if_neg (by omega), if_neg (by omega), if_neg (by omega), if_neg (by omega), if_neg (by omega), if_neg (by omega), if_neg (by omega), if_neg (by omega), if_neg (by omega)]
theorem fits_val (e : Elem) (f : Nat) (hf : f < 9) (h : BE e) : fitsS (f : Int) (valL e (f : Int)) = true := by
  obtain ⟨e1, e2, e3, e4, e5, e6, e7, e8, e9, e10, _⟩ := e
  have h1 : 0 ≤ e2 ∧ e2 ≤ 255 := h
  have w1 : IntKind.wrap .i64 e2 = e2 := wrap_small (by omega) (by omega)
  have hn : ∀ n : Int, noS (n, noStr, ()) = true := fun n => noS_iff.2 rfl
  have : f = 0 ∨ f = 1 ∨ f = 2 ∨ f = 3 ∨ f = 4 ∨ f = 5 ∨ f = 6 ∨ f = 7 ∨ f = 8 := by omega
  rcases this with rfl | rfl | rfl | rfl | rfl | rfl | rfl | rfl | rfl
  · simp [fitsS, valL, w1, hn]; omega
  all_goals simp [fitsS, valL, hn]
/-- An element with another one's first fields. -/
def mixE (u x : Elem) : Nat → Elem
  | 0 => u
  | f + 1 => withL (mixE u x f) (f : Int) (valL x (f : Int))
theorem mix_id (u x : Elem) : ∀ f, (mixE u x f).1 = u.1
  | 0 => rfl
  | f + 1 => by show (withL _ _ _).1 = _; rw [with_id, mix_id u x f]
theorem mix_BE (u x : Elem) (h : BE u) : ∀ f, BE (mixE u x f)
  | 0 => h
  | f + 1 => BE_with _ _ _ (mix_BE u x h f)
theorem mix_val (u x : Elem) : ∀ (f g : Nat), f ≤ g → valL (mixE u x f) (g : Int) = valL u (g : Int)
  | 0, g, _ => rfl
  | f + 1, g, h => by
    show valL (withL _ _ _) _ = _
    rw [valL_with _ _ _ _ (by omega), mix_val u x f g (by omega)]
theorem mix_nine (u x : Elem) (hid : x.1 = u.1) (hx : BE x) : mixE u x 9 = x := by
  obtain ⟨u1, u2, u3, u4, u5, u6, u7, u8, u9, u10, _⟩ := u
  obtain ⟨x1, x2, x3, x4, x5, x6, x7, x8, x9, x10, _⟩ := x
  have h1 : 0 ≤ x2 ∧ x2 ≤ 255 := hx
  have w1 : IntKind.wrap .i64 x2 = x2 := wrap_small (by omega) (by omega)
  have w2 : IntKind.wrap .u8 x2 = x2 := wrap_small_u8 h1.1 h1.2
  have hid : x1 = u1 := hid
  subst hid
  simp [mixE, withL, valL, w1, w2]

theorem put_put {d : List Elem} (hs : Ris d) {m x : Elem} (h : m.1 = x.1) : putS (putS d m) x = putS d x := by
  refine ris_ext (put_ris _ (put_ris _ hs)) (put_ris _ hs) fun z => ?_
  rw [mem_putS, mem_putS, mem_putS]
  constructor
  · rintro (h1 | ⟨rfl | ⟨h1, h2⟩, h3⟩)
    · exact .inl h1
    · exact (h3 h).elim
    · exact .inr ⟨h1, h3⟩
  · rintro (h1 | ⟨h1, h3⟩)
    · exact .inl h1
    · exact .inr ⟨.inr ⟨h1, by omega⟩, h3⟩
theorem put_self {d : List Elem} (hs : Ris d) {x : Elem} (hx : x ∈ d) : putS d x = d := by
  refine ris_ext (put_ris _ hs) hs fun z => ?_
  rw [mem_putS]
  constructor
  · rintro (rfl | ⟨h, _⟩)
    · exact hx
    · exact h
  · intro hz
    by_cases e : z.1 = x.1
    · exact .inl (ris_uniq hs hz hx e)
    · exact .inr ⟨hz, e⟩
theorem there_put {d : List Elem} {m : Elem} {n : Int} (h : thereS d n = true) : thereS (putS d m) n = true := by
  unfold thereS at h ⊢
  rw [hasN_put]
  revert h
  cases (n == 0) <;> cases hasN n d <;> simp
/-- One element's fields are set, one by one. -/
theorem sets_steps (u x : Elem) (hid : x.1 = u.1) (hu : BE u) (hx : BE x) (h0 : u.1 ≠ 0) : ∀ (k f : Nat) (d : List Elem) (i : Nat), f + k = 9 → Ris d → mixE u x f ∈ d → thereS d u.2.2.1 = true → thereS d x.2.2.1 = true →
    applyS d ((List.range' f k).flatMap (setF u x)) i = (putS d x, 0, 0)
  | 0, f, d, i, hf, hs, hm, hp, hq => by
    have : f = 9 := by omega
    subst this
    rw [mix_nine u x hid hx] at hm
    rw [put_self hs hm]; rfl
  | k + 1, f, d, i, hf, hs, hm, hp, hq => by
    rw [List.range'_succ, List.flatMap_cons]
    have hmid := mix_id u x f
    have hval := mix_val u x f f (Nat.le_refl _)
    by_cases hv : valL u (f : Int) = valL x (f : Int)
    · have e : setF u x f = [] := by unfold setF; rw [if_pos hv]
      rw [e, List.nil_append]
      refine sets_steps u x hid hu hx h0 k (f + 1) d i (by omega) hs ?_ hp hq
      have : mixE u x (f + 1) = mixE u x f := by
        show withL _ _ _ = _
        rw [← hv, ← hval]; exact with_same _ _ (mix_BE u x hu f)
      rw [this]; exact hm
    · have e : setF u x f = [setE u.1 (f : Int) (valL u (f : Int)) (valL x (f : Int))] := by unfold setF; rw [if_neg hv]
      rw [e, List.singleton_append]
      have hfd : findS d u.1 = mixE u x f := findS_eq hs hm hmid
      have hstep : oneT d (setE u.1 (f : Int) (valL u (f : Int)) (valL x (f : Int))) = (putS d (mixE u x (f + 1)), 0) := by
        have := mkSet (d := d) (x := setE u.1 (f : Int) (valL u (f : Int)) (valL x (f : Int))) hs ((set_right rfl).2 ⟨h0, rfl, fits_val u f (by omega) hu, fits_val x f (by omega) hx⟩) rfl (hasN_iff.2 ⟨_, hm, hmid⟩)
          (by show valL (findS d u.1) (f : Int) = valL u (f : Int); rw [hfd, hval]) (fun hf1 => ?_)
        · rw [this]
          show (putS d (withL (findS d u.1) (f : Int) (valL x (f : Int))), 0) = _
          rw [hfd]; rfl
        · have hf1 : (f : Int) = 1 := hf1
          rw [hf1]
          exact ⟨hp, hq⟩
      rw [applyS_cons hstep]
      have := sets_steps u x hid hu hx h0 k (f + 1) (putS d (mixE u x (f + 1))) (i + 1) (by omega) (put_ris _ hs) (mem_putS.2 (.inl rfl)) (there_put hp) (there_put hq)
      rw [this, put_put hs (by rw [mix_id, hid])]
/-- What is set. -/
def setIn (b : List Elem) (d : List Elem) (e : Elem) : List Elem := if hasN e.1 b = true then putS d (findS b e.1) else d
theorem sets_all (b : List Elem) (hsb : Ris b) (hbb : AllB b) : ∀ (l d : List Elem) (i : Nat), Ris l → Ris d → (∀ e : Elem, e ∈ l → e ∈ d) → (∀ e : Elem, e ∈ l → BE e ∧ 1 ≤ e.1 ∧ thereS d e.2.2.1 = true) → (∀ e : Elem, e ∈ b → thereS d e.2.2.1 = true) →
    applyS d (l.flatMap (setsOf b)) i = (l.foldl (setIn b) d, 0, 0)
  | [], d, i, _, _, _, _, _ => rfl
  | e :: l, d, i, hl, hs, hin, he, hb => by
    have h1 := (ris_cons.1 hl).1
    obtain ⟨e1, e2, e3⟩ := he e (by simp)
    rw [List.flatMap_cons, List.foldl_cons]
    by_cases hh : hasN e.1 b = true
    · obtain ⟨m1, m2⟩ := findS_mem hh
      have es : setsOf b e = (List.range' 0 9).flatMap (setF e (findS b e.1)) := by unfold setsOf; rw [if_pos hh]; rfl
      have ed : setIn b d e = putS d (findS b e.1) := by unfold setIn; rw [if_pos hh]
      rw [es, ed]
      have hone := sets_steps e (findS b e.1) m2 e1 (hbb _ m1) (by omega) 9 0 d i (by omega) hs (hin e (by simp)) e3 (hb _ m1)
      rw [applyS_append _ _ _ _ _ hone]
      refine sets_all b hsb hbb l _ _ (ris_cons.1 hl).2 (put_ris _ hs) (fun y hy => ?_) (fun y hy => ?_) (fun y hy => there_put (hb y hy))
      · have := h1 y hy
        exact mem_putS.2 (.inr ⟨hin y (by simp [hy]), by omega⟩)
      · obtain ⟨y1, y2, y3⟩ := he y (by simp [hy])
        exact ⟨y1, y2, there_put y3⟩
    · have es : setsOf b e = [] := by unfold setsOf; rw [if_neg hh]
      have ed : setIn b d e = d := by unfold setIn; rw [if_neg hh]
      rw [es, ed, List.nil_append]
      exact sets_all b hsb hbb l d i (ris_cons.1 hl).2 hs (fun y hy => hin y (by simp [hy])) (fun y hy => he y (by simp [hy])) hb
theorem setIn_ris (b : List Elem) : ∀ (l d : List Elem), Ris d → Ris (l.foldl (setIn b) d)
  | [], d, h => h
  | e :: l, d, h => by
    rw [List.foldl_cons]
    refine setIn_ris b l _ ?_
    unfold setIn; split
    · exact put_ris _ h
    · exact h
theorem setIn_mem (b : List Elem) (hsb : Ris b) : ∀ (l d : List Elem), Ris l → ∀ z : Elem, z ∈ l.foldl (setIn b) d ↔ (z ∈ d ∧ ¬ (hasN z.1 l = true ∧ hasN z.1 b = true)) ∨ (z ∈ b ∧ hasN z.1 l = true)
  | [], d, _, z => by simp [hasN, here]
  | e :: l, d, hl, z => by
    have h1 := (ris_cons.1 hl).1
    have hc : hasN z.1 (e :: l) = (e.1 == z.1 || hasN z.1 l) := by rw [show e :: l = [e] ++ l from rfl, hasN_append, hasN_one]
    rw [List.foldl_cons, setIn_mem b hsb l _ (ris_cons.1 hl).2 z, hc]
    have hzl : e.1 = z.1 → hasN z.1 l = false := fun h => hasN_no.2 fun x hx hxz => by have := h1 x hx; omega
    by_cases hz : e.1 = z.1
    · have hl0 := hzl hz
      have he : (e.1 == z.1) = true := by simpa using hz
      rw [hl0, he]
      unfold setIn
      by_cases hh : hasN e.1 b = true
      · obtain ⟨m1, m2⟩ := findS_mem hh
        rw [if_pos hh, mem_putS, ← hz, hh]
        simp
        constructor
        · rintro (h | ⟨_, h⟩)
          · rw [h]; exact m1
          · exact (h (by omega)).elim
        · intro h
          exact .inl (ris_uniq hsb h m1 (by omega))
      · rw [if_neg hh, ← hz]
        simp [hh]
        intro h
        exact (hh (hasN_iff.2 ⟨z, h, by omega⟩)).elim
    · have he : (e.1 == z.1) = false := by simpa using hz
      rw [he, Bool.false_or]
      have hs : z ∈ setIn b d e ↔ z ∈ d := by
        unfold setIn
        by_cases hh : hasN e.1 b = true
        · obtain ⟨m1, m2⟩ := findS_mem hh
          rw [if_pos hh, mem_putS, m2]
          constructor
          · rintro (h | ⟨h, _⟩)
            · exact (hz (by rw [← m2, h])).elim
            · exact h
          · intro h; exact .inr ⟨h, fun h => hz h.symm⟩
        · rw [if_neg hh]
      rw [hs]

theorem inv_add (e : Elem) : invE (addE e) = dropE e := rfl
theorem rules_shut {c : List Elem} (h : RulesOk c) : Shut c := fun e he => by
  rcases (h.2 e he).1 with h1 | h1
  · exact .inl h1
  · exact .inr (hasN_iff.1 h1)
/-- THERE: the edits from a chart that keeps the rules to another one lead there. -/
theorem diff_leads {a b : List Elem} (ha : Kp a) (hb : Kp b) : applyS a (diffL a b) 0 = (b, 0, 0) := by
  have hsa := kp_ris ha
  have hsb := kp_ris hb
  have oka := ok_rules b a hb.1
  have okb := ok_rules a b ha.1
  have hPa : ∀ e : Elem, e ∈ a → 1 ≤ e.1 := ha.1.1.2.2
  have hPb : ∀ e : Elem, e ∈ b → 1 ≤ e.1 := hb.1.1.2.2
  have hadds := adds_all (orderS b a) a 0 hsa (rules_shut ha.1) (fun e he => hPb e (sub_order b a e he)) (addSeq_order b a)
  have hmem := fold_mem (orderS b a) a (addSeq_order b a)
  have hsd := fold_ris (orderS b a) a hsa
  generalize hD : (orderS b a).foldl putS a = D at hadds hmem hsd
  have inA : ∀ e : Elem, e ∈ a → e ∈ D := fun e he => (hmem e).2 (.inl he)
  have thA : ∀ e : Elem, e ∈ a → thereS D e.2.2.1 = true := fun e he => by
    rcases rules_shut ha.1 e he with h | ⟨x, hx, h⟩
    · exact thereS_iff.2 (.inl h)
    · exact thereS_iff.2 (.inr ⟨x, inA x hx, h⟩)
  have hasB : ∀ x : Elem, x ∈ b → ∃ y : Elem, y ∈ D ∧ y.1 = x.1 := fun x hx => by
    cases hn : hasN x.1 a with
    | true =>
      obtain ⟨y, hy, e⟩ := hasN_iff.1 hn
      exact ⟨y, inA y hy, e⟩
    | false => exact ⟨x, (hmem x).2 (.inr ((order_mem hsb oka x).2 ⟨hx, hn⟩)), rfl⟩
  have thB : ∀ e : Elem, e ∈ b → thereS D e.2.2.1 = true := fun e he => by
    rcases rules_shut hb.1 e he with h | ⟨x, hx, h⟩
    · exact thereS_iff.2 (.inl h)
    · obtain ⟨y, hy, e'⟩ := hasB x hx
      exact thereS_iff.2 (.inr ⟨y, hy, by omega⟩)
  have hsets := sets_all b hsb hb.2 a D (0 + ((orderS b a).map addE).length) hsa hsd inA (fun e he => ⟨ha.2 e he, hPa e he, thA e he⟩) thB
  have hback := adds_all (orderS a b) b 0 hsb (rules_shut hb.1) (fun e he => hPa e (sub_order a b e he)) (addSeq_order a b)
  have hfin : a.foldl (setIn b) D = (orderS a b).foldl putS b := by
    refine ris_ext (setIn_ris b a D hsd) (fold_ris _ _ hsb) fun z => ?_
    rw [setIn_mem b hsb a D hsa z, fold_mem _ _ (addSeq_order a b) z, hmem z, order_mem hsb oka z, order_mem hsa okb z]
    have q1 : z ∈ a → hasN z.1 a = true := fun h => hasN_iff.2 ⟨z, h, rfl⟩
    have q2 : z ∈ b → hasN z.1 b = true := fun h => hasN_iff.2 ⟨z, h, rfl⟩
    cases h1 : hasN z.1 a <;> cases h2 : hasN z.1 b <;> simp_all
  have hbk := back_all ((orderS a b).map addE) b _ 0 (0 + ((orderS b a).map addE).length + (a.flatMap (setsOf b)).length) hb.2 (fun x hx => by
    obtain ⟨e, he, rfl⟩ := List.mem_map.1 hx
    exact ha.2 e (sub_order a b e he)) (by rw [hback]) (by rw [hback])
  have hdl : (((orderS a b).map addE).map invE).reverse = (orderS a b).reverse.map dropE := by
    rw [List.map_map, ← List.map_reverse]
    rfl
  rw [hdl] at hbk
  unfold diffL
  rw [applyS_append _ _ _ _ _ hadds, applyS_append _ _ _ _ _ hsets, hfin]
  exact hbk
theorem diff_ok {a b : List Elem} (ha : Kp a) (hb : Kp b) : diffS a b = (diffL a b, 0) := by
  unfold diffS
  rw [if_neg (by simp [kp_ris ha, kp_ris hb]), if_neg (by simp [ok_rules b a hb.1, ok_rules a b ha.1])]
theorem allB_sub {c : List Elem} (h : AllB c) (f : Elem → Edit) (hf : ∀ e, (f e).2.1 = e) (l : List Elem) (hl : ∀ e : Elem, e ∈ l → e ∈ c) : ∀ x : Edit, x ∈ l.map f → BE x.2.1 := fun x hx => by
  obtain ⟨e, he, rfl⟩ := List.mem_map.1 hx
  rw [hf]; exact h e (hl e he)
theorem diff_B {a b : List Elem} (ha : Kp a) (hb : Kp b) : ∀ x : Edit, x ∈ diffL a b → BE x.2.1 := by
  intro x hx
  unfold diffL at hx
  rcases List.mem_append.1 hx with hx | hx
  · exact allB_sub hb.2 addE (fun _ => rfl) _ (sub_order b a) x hx
  · rcases List.mem_append.1 hx with hx | hx
    · obtain ⟨e, he, hx⟩ := List.mem_flatMap.1 hx
      unfold setsOf setsS at hx
      split at hx
      · obtain ⟨f, hf, hx⟩ := List.mem_flatMap.1 hx
        unfold setF at hx
        split at hx
        · simp at hx
        · simp at hx; rw [hx]; unfold setE BE; simp
      · simp at hx
    · exact allB_sub ha.2 dropE (fun _ => rfl) _ (fun e he => sub_order a b e (List.mem_reverse.1 he)) x hx
/-- AND BACK. -/
theorem diff_back {a b : List Elem} (ha : Kp a) (hb : Kp b) : applyS b ((diffL a b).map invE).reverse 0 = (a, 0, 0) :=
  back_all (diffL a b) a b 0 0 ha.2 (diff_B ha hb) (by rw [diff_leads ha hb]) (by rw [diff_leads ha hb])
theorem diff_nil {a b : List Elem} (ha : Kp a) (hb : Kp b) : diffL a b = [] ↔ a = b := by
  constructor
  · intro h
    have := diff_leads ha hb
    rw [h] at this
    exact congrArg (·.1) this
  · rintro rfl
    have hs := kp_ris ha
    have ok := ok_rules a a ha.1
    have h0 : orderS a a = [] := by
      rw [List.eq_nil_iff_forall_not_mem]
      intro z hz
      obtain ⟨h1, h2⟩ := (order_mem hs ok z).1 hz
      rw [hasN_iff.2 ⟨z, h1, rfl⟩] at h2; cases h2
    unfold diffL
    rw [h0]
    simp only [List.map_nil, List.reverse_nil, List.nil_append, List.append_nil]
    rw [List.flatMap_eq_nil_iff]
    intro e he
    unfold setsOf
    rw [if_pos (hasN_iff.2 ⟨e, he, rfl⟩), findS_eq hs he rfl]
    unfold setsS
    rw [List.flatMap_eq_nil_iff]
    intro f hf
    unfold setF
    rw [if_pos rfl]
end Go.Iw
