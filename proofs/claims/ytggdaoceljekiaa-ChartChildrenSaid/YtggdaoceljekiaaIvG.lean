/- A region whose order is open; code; functions. -/
import Derived.Test.YtggdaoceljekiaaIvF
namespace Go.Iv
open Go.RowKit
set_option linter.unusedVariables false
set_option linter.unusedSimpArgs false

section
variable {P : Program} {cx : Cx} {w0 w : World} {ok0 ok : Nat → Prop} {m : Nat → Value} {st : St} {a : Act} {o : Oper} {K : St → Prop} {Q : Exit → Act → World → Prop}

theorem quiet_val (h : Here P cx w0 ok0 m ok st a w) (hq : quietOp o = true) (hk : aop cx o K st) : Val P w0 ok0 m ok st a w o K := by
  simp only [quietOp] at hq
  cases ho : o.op with
  | move x => exact q_move h ho (by unfold aop at hk; rw [ho] at hk; exact hk)
  | pick c x y => exact q_pick h ho hk
  | extract x i => exact q_extract h ho hk
  | unOp op T x => exact q_unOp h ho hk
  | fieldAddr S x f => exact q_fieldAddr h ho hk
  | indexAddr T x i => exact q_indexAddr h ho hk
  | binOp op T x y T' => exact q_binOp h ho hk
  | call c =>
    rw [ho] at hq
    cases hc : c.callee with
    | builtin b => cases b <;> simp [hc] at hq; exact q_len h ho hc hk
    | _ => simp [hc] at hq
  | _ => rw [ho] at hq; simp at hq

theorem needs_spec {o : Oper} {p : Nat → Bool} : (needsOf o).all p = true ↔ ∀ e ∈ o.after, Region.binds .any e = true → p e.on = true := by
  simp only [needsOf, List.all_map, List.all_filter, List.all_eq_true, Array.mem_toList_iff, Function.comp, Bool.or_eq_true, Bool.not_eq_true']
  constructor
  · intro h e he hb
    have := h e he
    simpa [hb] using this
  · intro h e he
    cases hb : Region.binds .any e with
    | false => simp
    | true => simp [h e he hb]

theorem readyL_spec {ops : Array Oper} {listed : Array Bool} {i : Nat} : i ∈ readyL ops listed.toList ↔ i ∈ Region.ready .any ops listed := by
  rw [mem_ready]
  unfold readyL
  rw [List.mem_filter, List.mem_range]
  have gd : ∀ j b, listed.toList.getD j b = listed.getD j b := fun j b => by simp [Array.getD_eq_getD_getElem?, List.getD_eq_getElem?_getD]
  cases ho : ops[i]? with
  | none => simp
  | some o =>
    have hlt : i < ops.size := (Array.getElem?_eq_some_iff.1 ho).1
    simp only [hlt, true_and, Bool.and_eq_true, Bool.not_eq_true', gd, needs_spec, Option.some.injEq, exists_eq_left']

theorem readyL_nil {ops : Array Oper} {listed : Array Bool} (h : readyL ops listed.toList = []) : Region.ready .any ops listed = [] := by
  cases hr : Region.ready .any ops listed with
  | nil => rfl
  | cons i r =>
    have : i ∈ readyL ops listed.toList := readyL_spec.2 (by rw [hr]; simp)
    rw [h] at this; simp at this

theorem pickQ_spec {ops : Array Oper} {l : List Bool} : ∀ {rs : List Nat} {i : Nat}, pickQ ops l rs = some i → i ∈ rs ∧ ∃ o, ops[i]? = some o ∧ quietOp o = true ∧ freeL ops l i o = true
  | [], i, h => by simp [pickQ] at h
  | j :: rs, i, h => by
    simp only [pickQ] at h
    split at h
    · rename_i o ho
      cases hc : quietOp o && freeL ops l j o with
      | true =>
        rw [hc] at h; simp at h; subst h
        simp at hc
        exact ⟨by simp, o, ho, hc.1, hc.2⟩
      | false =>
        rw [hc] at h; simp at h
        obtain ⟨h1, h2⟩ := pickQ_spec h
        exact ⟨by simp [h1], h2⟩
    · obtain ⟨h1, h2⟩ := pickQ_spec h
      exact ⟨by simp [h1], h2⟩

theorem allI_mem {p : Nat → Prop} : ∀ {l : List Nat}, allI p l → ∀ i ∈ l, p i
  | [], _, i, h => by simp at h
  | [j], h, i, hi => by simp at hi; subst hi; exact h
  | j :: k :: l, h, i, hi => by
    rcases List.mem_cons.1 hi with rfl | hi
    · exact h.1
    · exact allI_mem h.2 i hi

/-- One operation of a region. -/
theorem aop1_sound (hcx : CxOk P cx) {ops : Array Oper} {i : Nat} {o : Oper} (ho : ops[i]? = some o) {K' : Act → World → Prop} (hK : ∀ a w, Nxt w0 ok0 K a w → K' a w) (hk : aops cx ops K [o] st) (hr : RelE w0 ok0 st a w) : wpOp P ops Q i K' a w := by
  obtain ⟨m, ok, r, f⟩ := hr
  have h : Here P cx w0 ok0 m ok st a w := ⟨hcx, r, f⟩
  have run : ∀ st', Here P cx w0 ok0 m ok st' a w → aop cx o (aops cx ops K []) st' → o.wp P a w K' Q := fun st' h' hk' =>
    Oper.wp_mono' (fun a' w' ⟨s, hs, hr⟩ => hK a' w' ⟨s, aops_nil.mp hs, hr⟩) (aop_sound h' hk')
  have skip : ∀ st', Here P cx w0 ok0 m ok st' a w → aops cx ops K [] (st'.put o.dst (.tup [])) → K' (a.put o.dst undef) w := fun st' h' hk' =>
    hK _ _ ⟨_, aops_nil.mp hk', m, ok, h'.r.put (x := .tup []) rep_skip o.dst, f⟩
  unfold aops at hk
  rw [frc_eq] at hk
  unfold wpOp
  simp only [ho]
  cases hg : o.guard with
  | none =>
    rw [hg] at hk
    rw [if_pos (by simp [Region.wanted, hg])]
    exact .inl (run st h hk)
  | some jw =>
    obtain ⟨j, want⟩ := jw
    rw [hg] at hk
    simp only at hk
    split at hk
    · rename_i t ht
      split at hk
      · rename_i b hb
        have hy : yielded ops a.tmps j = some b := by
          have := r.env t
          rw [hb] at this
          have : a.tmps.getD t undef = .bool b := RepV.bool this
          have hlt : t < a.tmps.size := by
            rw [r.size]
            rcases Nat.lt_or_ge t st.env.length with h1 | h1
            · exact h1
            · have : st.get t = .v .un := by simp [St.get, List.getD_eq_getElem?_getD, List.getElem?_eq_none h1]
              rw [hb] at this; cases this
          have ht2 : a.tmps[t]? = some (.bool b) := by
            rw [← this]; simp [Array.getD_eq_getD_getElem?, hlt]
          unfold yielded
          rw [ht, Option.bind_some, ht2]
        have hw : Region.wanted o (yielded ops a.tmps) = (b == want) := by
          simp [Region.wanted, hg, hy]
        cases want with
        | true =>
          rw [cond_true] at hk
          rcases br_cases hk with ⟨e, hk⟩ | ⟨e, hk⟩
          · rw [if_pos (by rw [hw, e]; rfl)]; exact .inl (run _ (h.split hb true e) hk)
          · rw [if_neg (by rw [hw, e]; simp)]; exact skip _ (h.split hb false e) hk
        | false =>
          rw [cond_false] at hk
          rcases br_cases hk with ⟨e, hk⟩ | ⟨e, hk⟩
          · rw [if_neg (by rw [hw, e]; simp)]; exact skip _ (h.split hb true e) hk
          · rw [if_pos (by rw [hw, e]; rfl)]; exact .inl (run _ (h.split hb false e) hk)
      · rename_i hb
        have hy := yielded_skip r ht hb
        rw [if_neg (by simp [Region.wanted, hg, hy])]
        exact skip st h hk
      · exact hk.elim
    · exact hk.elim

theorem quiet1 {ops : Array Oper} (h : Here P cx w0 ok0 m ok st a w) (hq : quietOp o = true) (hk : aops cx ops K [o] st) : ∃ st' x v, K (st'.put o.dst x) ∧ RepA w ok m st'.hp x v ∧ Yields P ops o v a ∧ Here P cx w0 ok0 m ok st' a w := by
  unfold aops at hk
  rw [frc_eq] at hk
  cases hg : o.guard with
  | none =>
    rw [hg] at hk
    obtain ⟨x, v, hk, hx, hrun⟩ := quiet_val h hq hk
    exact ⟨st, x, v, aops_nil.mp hk, hx, .inl ⟨by simp [Region.wanted, hg], hrun⟩, h⟩
  | some jw =>
    obtain ⟨j, want⟩ := jw
    rw [hg] at hk
    simp only at hk
    split at hk
    · rename_i t ht
      split at hk
      · rename_i b hb
        have hy : yielded ops a.tmps j = some b := by
          have := h.r.env t
          rw [hb] at this
          have : a.tmps.getD t undef = .bool b := RepV.bool this
          have hlt : t < a.tmps.size := by
            rw [h.r.size]
            rcases Nat.lt_or_ge t st.env.length with h1 | h1
            · exact h1
            · have : st.get t = .v .un := by simp [St.get, List.getD_eq_getElem?_getD, List.getElem?_eq_none h1]
              rw [hb] at this; cases this
          have ht2 : a.tmps[t]? = some (.bool b) := by
            rw [← this]; simp [Array.getD_eq_getD_getElem?, hlt]
          unfold yielded
          rw [ht, Option.bind_some, ht2]
        have hw : Region.wanted o (yielded ops a.tmps) = (b == want) := by
          simp [Region.wanted, hg, hy]
        have run : ∀ st', Here P cx w0 ok0 m ok st' a w → (b == want) = true → aop cx o (aops cx ops K []) st' → ∃ st' x v, K (st'.put o.dst x) ∧ RepA w ok m st'.hp x v ∧ Yields P ops o v a ∧ Here P cx w0 ok0 m ok st' a w := by
          intro st' h' e hk'
          obtain ⟨x, v, hk', hx, hrun⟩ := quiet_val h' hq hk'
          exact ⟨st', x, v, aops_nil.mp hk', hx, .inl ⟨by rw [hw, e], hrun⟩, h'⟩
        have skip : ∀ st', Here P cx w0 ok0 m ok st' a w → (b == want) = false → aops cx ops K [] (st'.put o.dst (.tup [])) → ∃ st' x v, K (st'.put o.dst x) ∧ RepA w ok m st'.hp x v ∧ Yields P ops o v a ∧ Here P cx w0 ok0 m ok st' a w := by
          intro st' h' e hk'
          exact ⟨st', .tup [], undef, aops_nil.mp hk', rep_skip, .inr ⟨by rw [hw, e], rfl⟩, h'⟩
        cases want with
        | true =>
          rw [cond_true] at hk
          rcases br_cases hk with ⟨e, hk⟩ | ⟨e, hk⟩
          · exact run _ (h.split hb true e) (by rw [e]; rfl) hk
          · exact skip _ (h.split hb false e) (by rw [e]; rfl) hk
        | false =>
          rw [cond_false] at hk
          rcases br_cases hk with ⟨e, hk⟩ | ⟨e, hk⟩
          · exact skip _ (h.split hb true e) (by rw [e]; rfl) hk
          · exact run _ (h.split hb false e) (by rw [e]; rfl) hk
      · rename_i hb
        have hy := yielded_skip h.r ht hb
        exact ⟨st, .tup [], undef, aops_nil.mp hk, rep_skip, .inr ⟨by simp [Region.wanted, hg, hy], rfl⟩, h⟩
      · exact hk.elim
    · exact hk.elim

theorem adraw_sound (hcx : CxOk P cx) {ops : Array Oper} (hsel : Region.noSelect ops = true) (hQ : ∀ a w, Nxt w0 ok0 K a w → Q .normal a w) (hp : ∀ c a w, ¬ Q (.panic c) a w) :
    ∀ (n : Nat) (listed : Array Bool) (st : St) (a : Act) (w : World), adraw cx ops n listed.toList K st → RelE w0 ok0 st a w → wpAny P .any ops Q n listed a w
  | 0, listed, st, a, w, h, hr => by
    obtain ⟨h1, h2⟩ := h
    exact ⟨readyL_nil (by simpa using h1), hQ a w ⟨st, h2, hr⟩⟩
  | n + 1, listed, st, a, w, h, hr => by
    unfold adraw at h
    split at h
    · rename_i hnil
      exact ⟨fun _ => hQ a w ⟨st, h, hr⟩, fun i hi => by rw [readyL_nil hnil] at hi; simp at hi⟩
    · rename_i i0 r0 hrs
      have hset : ∀ j, (listed.toList.set j true) = (listed.setIfInBounds j true).toList := fun j => by simp
      split at h
      · rename_i j hj
        obtain ⟨hmem, oj, hoj, hquiet, hfree⟩ := pickQ_spec hj
        rw [← hrs] at hmem
        have hready := readyL_spec.1 hmem
        rw [hoj] at h
        simp only at h
        obtain ⟨m, ok, r, f⟩ := hr
        obtain ⟨st', x, v, hk, hx, hrun, h'⟩ := quiet1 ⟨hcx, r, f⟩ hquiet h
        rw [hset] at hk
        refine wpAny_first hoj (fun j o cs b hjo => Region.noSelect_spec hsel j o cs b hjo) (fun c a w hc => (hp _ _ _ hc).elim) n listed a w ?_ hready hrun
          (adraw_sound hcx hsel hQ hp n _ _ _ w hk ⟨m, ok, h'.r.put hx _, h'.f⟩)
        intro k ok' hok hkj hun hnot
        have hf := List.all_eq_true.1 hfree k (List.mem_range.2 (Array.getElem?_eq_some_iff.1 hok).1)
        have gd : listed.toList.getD k true = false := by rw [← hun]; simp [Array.getD_eq_getD_getElem?, List.getD_eq_getElem?_getD]
        have nk : Nat.beq k j = false := by rw [nbeq]; simp [hkj]
        rw [hok] at hf
        simp only [nk, gd, Bool.false_or, Bool.or_eq_true] at hf
        rcases hf with hf | hf
        · exfalso
          have := List.contains_iff_mem.1 hf
          simp only [needsOf, List.mem_map, List.mem_filter, Array.mem_toList_iff] at this
          obtain ⟨e, ⟨he, hb⟩, e2⟩ := this
          exact hnot e he hb e2
        · exact hf
      · refine ⟨fun hnil => ?_, fun i hi => ?_⟩
        · have : i0 ∈ Region.ready .any ops listed := readyL_spec.1 (by rw [hrs]; simp)
          rw [hnil] at this; simp at this
        · have hi' := readyL_spec.2 hi
          rw [hrs] at hi'
          have hone := allI_mem h i hi'
          split at hone
          · rename_i o ho
            refine aop1_sound hcx ho (K := adraw cx ops n (listed.toList.set i true) K) (fun a' w' ⟨s, hs, hr'⟩ => ?_) hone hr
            rw [hset] at hs
            exact adraw_sound hcx hsel hQ hp n _ s a' w' hs hr'
          · exact hone.elim

theorem aops_drew (hr : RelE w0 ok0 st a w) : RelE w0 ok0 st a w.drew := by
  obtain ⟨m, ok, r, f⟩ := hr
  exact ⟨m, ok, r.world (fun _ _ => rfl) (fun _ _ _ _ _ => rfl) (Nat.le_refl _) r.keep.drew (fun _ h => h) r.okb (fun id ob b ho hb => (r.sep id ob b ho hb).1), f⟩

/-- The ways out of a piece of code, the model's and the machine's. -/
def AE.is : AE → Exit → Prop
  | .normal, .normal => True
  | .exit i, .exit j => i = j
  | .ret, .ret => True
  | _, _ => False

theorem Weak.rel {st1 : St} (h : Here P cx w0 ok0 m ok st a w) (hw : Weak st1 st) : Here P cx w0 ok0 m ok st1 a w := by
  have key0 : ∀ {x : AV0} {v : Value}, RepA0 w ok m st.hp x v → RepA0 w ok m st1.hp x v := by
    intro x v hx
    cases x with
    | tv _ _ => exact hx
    | rptr _ _ => exact hx
    | fn _ => exact hx
    | own _ _ _ => trivial
    | un => trivial
    | row id => exact fun e t xs hf => hx e t xs (hw.hp _ _ hf)
    | ptr id off => exact fun e t xs hf => hx e t xs (hw.hp _ _ hf)
    | elt id i off => exact fun e t xs hf => hx e t xs (hw.hp _ _ hf)
  refine ⟨h.cx, ⟨h.r.defers, by rw [h.r.size, hw.len], fun i => ?_, fun id o hf => h.r.ob id o (hw.hp _ _ hf), fun id o b hf => h.r.sep id o b (hw.hp _ _ hf), fun i i' o o' b h1 h2 => h.r.inj i i' o o' b (hw.hp _ _ h1) (hw.hp _ _ h2), h.r.okb, h.r.keep⟩, h.f⟩
  rcases hw.env i with e | e
  · rw [e]; trivial
  · rw [e]
    have := h.r.env i
    revert this
    cases st.get i with
    | v x => exact key0
    | tup l => exact fun ⟨us, e, hl, hi⟩ => ⟨us, e, hl, fun i x hx => let ⟨u, hu, hr⟩ := hi i x hx; ⟨u, hu, key0 hr⟩⟩

def Out (w0 : World) (ok0 : Nat → Prop) (J : AE → St → Prop) (e : Exit) (a : Act) (w : World) : Prop := ∃ ae st, ae.is e ∧ J ae st ∧ RelE w0 ok0 st a w

theorem awp_sound (hcx : CxOk P cx) {ct : Cuts} : ∀ (c : Code) (C : (AE → St → Prop) → AE → St → Prop), (∀ x ∈ lps c, LpOk cx ct x) → (∀ x ∈ jns cx ct c C, JnOk cx ct x) → ∀ (U J : AE → St → Prop) (st : St) (a : Act) (w : World), J = C U → awp cx ct c U J st → RelE w0 ok0 st a w → c.wp P (Out w0 ok0 J) a w := by
  intro c
  induction c with
  | skip => intro C hl hj U J st a w hJ h r; exact wp_skip ⟨.normal, st, trivial, h, r⟩
  | region id ops draw =>
    intro C hl hj U J st a w hJ h r
    cases draw with
    | true =>
      obtain ⟨hsel, h⟩ := h
      refine wp_region_any hcx.mixed ?_
      have hl : (List.replicate ops.size false) = (Array.replicate ops.size false).toList := by simp
      rw [hl] at h
      exact adraw_sound (K := J .normal) hcx hsel (fun a w ⟨s, hs, hr⟩ => ⟨.normal, s, trivial, hs, hr⟩) (fun c a w ⟨ae, s, he, _⟩ => by cases ae <;> exact he) _ _ st a w.drew h (aops_drew r)
    | false =>
      refine wp_region_list ?_
      exact aops_sound (K := J .normal) hcx (fun a w ⟨s, hs, hr⟩ => ⟨.normal, s, trivial, hs, hr⟩) _ st a w h r
  | seq x y ihx ihy =>
    intro C hl hjn U J st a w hJ h r
    have ihx := ihx (fun U => seqK (joined (look (rkey x) ct.jn) U (awp cx ct y U)) (C U)) (fun z hz => hl z (List.mem_append_left _ hz)) (fun z hz => hjn z (List.mem_append_left _ hz))
    have ihy := ihy C (fun z hz => hl z (List.mem_append_right _ hz)) (fun z hz => hjn z (List.mem_append_right _ (List.mem_cons_of_mem _ hz)))
    subst hJ
    refine wp_seq (wp_mono (ihx U _ st a w rfl h r) ?_)
    rintro e a' w' ⟨ae, s, he, hj, hr⟩
    cases ae with
    | normal =>
      cases e <;> first | exact he.elim | skip
      have hj : joined (look (rkey x) ct.jn) U (awp cx ct y U) (C U) s := hj
      unfold joined at hj
      split at hj
      · rename_i S hS
        obtain ⟨s1, hw, hj⟩ := hjn ⟨rkey x, y, C⟩ (List.mem_append_right _ (List.mem_cons_self ..)) S hS _ _ hj
        obtain ⟨m, ok, r, f⟩ := hr
        have hh : Here P cx w0 ok0 m ok s1 a' w' := Weak.rel ⟨hcx, r, f⟩ hw
        exact ihy U _ s1 a' w' rfl hj ⟨m, ok, hh.r, f⟩
      · exact ihy U _ s a' w' rfl hj hr
    | exit i => cases e <;> first | exact he.elim | exact ⟨.exit i, s, he, hj, hr⟩
    | ret => cases e <;> first | exact he.elim | exact ⟨.ret, s, he, hj, hr⟩
  | cond c x y ihx ihy =>
    intro C hl hjn U J st a w hJ h r
    have ihx := ihx C (fun z hz => hl z (List.mem_append_left _ hz)) (fun z hz => hjn z (List.mem_append_left _ hz))
    have ihy := ihy C (fun z hz => hl z (List.mem_append_right _ hz)) (fun z hz => hjn z (List.mem_append_right _ hz))
    obtain ⟨m, ok, r, f⟩ := r
    have hh : Here P cx w0 ok0 m ok st a w := ⟨hcx, r, f⟩
    unfold awp at h
    split at h
    · rename_i t
      split at h
      · rename_i b hb
        have hv : a.eval (.tmp t) = .bool b := by
          have := r.env t
          rw [hb] at this
          exact RepV.bool this
        rcases br_cases h with ⟨e, h⟩ | ⟨e, h⟩
        · have h' := hh.split hb true e
          subst e
          exact wp_cond_true hv (ihx U J _ a w hJ h ⟨m, ok, h'.r, f⟩)
        · have h' := hh.split hb false e
          subst e
          exact wp_cond_false hv (ihy U J _ a w hJ h ⟨m, ok, h'.r, f⟩)
      · exact h.elim
    · exact h.elim
  | block id c ih =>
    intro C hl hjn U J st a w hJ h r
    refine wp_block (wp_mono (ih (fun U => blkK id (C U)) hl hjn U _ st a w (by rw [hJ]) h r) ?_)
    rintro e a' w' ⟨ae, s, he, hj, hr⟩
    cases ae with
    | normal => cases e <;> first | exact he.elim | exact ⟨.normal, s, trivial, hj, hr⟩
    | exit i =>
      cases e with
      | exit j =>
        have : i = j := he
        subst this
        have hj : (bif Nat.beq i id then J .normal s else J (.exit i) s) := hj
        simp only [nbeq] at hj
        by_cases e' : i = id
        · simp only [e', decide_true, cond_true] at hj
          show (if i = id then Out w0 ok0 J .normal a' w' else Out w0 ok0 J (.exit i) a' w')
          rw [if_pos e']
          exact ⟨.normal, s, trivial, hj, hr⟩
        · simp only [e', decide_false, cond_false] at hj
          show (if i = id then Out w0 ok0 J .normal a' w' else Out w0 ok0 J (.exit i) a' w')
          rw [if_neg e']
          exact ⟨.exit i, s, rfl, hj, hr⟩
      | _ => exact he.elim
    | ret => cases e <;> first | exact he.elim | exact ⟨.ret, s, trivial, hj, hr⟩
  | loop c ih =>
    intro C hl hjn U J st a w hJ h r
    have ih := fun Q st a w => ih (fun U => U) (fun z hz => hl z (List.mem_cons_of_mem _ hz)) hjn Q Q st a w rfl
    have h : ∃ n, aloop (fun Q => awp cx ct c Q Q) n J st := by
      unfold awp at h
      split at h
      · rename_i S hS
        exact hl c (List.mem_cons_self ..) S hS _ _ h
      · exact h
    obtain ⟨n, h⟩ := h
    -- the least number of rounds that serves is the measure
    have least : ∀ (a : Act) (w : World), (∃ n st, aloop (fun Q => awp cx ct c Q Q) n J st ∧ RelE w0 ok0 st a w) → ∃ n, (∃ st, aloop (fun Q => awp cx ct c Q Q) n J st ∧ RelE w0 ok0 st a w) ∧ ∀ k, k < n → ¬ ∃ st, aloop (fun Q => awp cx ct c Q Q) k J st ∧ RelE w0 ok0 st a w := by
      intro a w ⟨n, st, h⟩
      induction n using Nat.strongRecOn generalizing st with
      | _ n ih =>
        by_cases hex : ∃ k, k < n ∧ ∃ st, aloop (fun Q => awp cx ct c Q Q) k J st ∧ RelE w0 ok0 st a w
        · obtain ⟨k, hk, st', h'⟩ := hex
          exact ih k hk st' h'
        · exact ⟨n, ⟨st, h⟩, fun k hk h => hex ⟨k, hk, h⟩⟩
    let I : Act → World → Prop := fun a w => ∃ n st, aloop (fun Q => awp cx ct c Q Q) n J st ∧ RelE w0 ok0 st a w
    have hdec : ∀ a w, ∃ n, I a w → ((∃ st, aloop (fun Q => awp cx ct c Q Q) n J st ∧ RelE w0 ok0 st a w) ∧ ∀ k, k < n → ¬ ∃ st, aloop (fun Q => awp cx ct c Q Q) k J st ∧ RelE w0 ok0 st a w) := by
      intro a w
      by_cases hI : I a w
      · obtain ⟨n, h⟩ := least a w hI; exact ⟨n, fun _ => h⟩
      · exact ⟨0, fun h => absurd h hI⟩
    let μ : Act → World → Nat := fun a w => (hdec a w).choose
    have hμ : ∀ a w, I a w → ((∃ st, aloop (fun Q => awp cx ct c Q Q) (μ a w) J st ∧ RelE w0 ok0 st a w) ∧ ∀ k, k < μ a w → ¬ ∃ st, aloop (fun Q => awp cx ct c Q Q) k J st ∧ RelE w0 ok0 st a w) := fun a w => (hdec a w).choose_spec
    refine wp_loop I μ ⟨n, st, h, r⟩ ?_
    intro a w hI
    obtain ⟨⟨st, h, r⟩, _⟩ := hμ a w hI
    cases hn : μ a w with
    | zero => rw [hn] at h; exact h.elim
    | succ n =>
      rw [hn] at h
      obtain ⟨st1, hweak, h⟩ := h
      obtain ⟨m, ok, r, f⟩ := r
      have hh : Here P cx w0 ok0 m ok st1 a w := Weak.rel ⟨hcx, r, f⟩ hweak
      refine wp_mono (ih _ st1 a w h ⟨m, ok, hh.r, f⟩) ?_
      rintro e a' w' ⟨ae, s, he, hj, hr⟩
      cases ae with
      | normal =>
        cases e <;> first | exact he.elim | skip
        have hI' : I a' w' := ⟨n, s, hj, hr⟩
        refine ⟨hI', ?_⟩
        obtain ⟨_, hmin⟩ := hμ a' w' hI'
        rcases Nat.lt_or_ge n (μ a' w') with hlt | hge
        · exact absurd ⟨s, hj, hr⟩ (hmin n hlt)
        · omega
      | exit i => cases e <;> first | exact he.elim | exact ⟨.exit i, s, he, hj, hr⟩
      | ret => cases e <;> first | exact he.elim | exact ⟨.ret, s, he, hj, hr⟩
  | exit id => intro _ _ _ U J st a w _ h r; exact wp_exit ⟨.exit id, st, rfl, h, r⟩
  | ret => intro _ _ _ U J st a w _ h r; exact wp_ret ⟨.ret, st, trivial, h, r⟩
  | _ => intro _ _ _ U J st a w _ h r; exact h.elim

/-- One of a function's results. -/
def resOne (tmps : Array Value) : ResultVar → Sem Value
  | .tmp t => pure (tmps.getD t undef)
  | .cell x t => do loadVar t (← asAddr (tmps.getD x undef))

theorem results_eq (fn : Func) (tmps : Array Value) : results fn tmps = (do
    let vs ← fn.results.mapM (resOne tmps)
    pure (if h : vs.size = 1 then vs[0] else .tuple vs)) := by
  unfold results
  congr 1

theorem AV0.arg_rep (r : Rel w0 m ok st a w) {q : AV0} {v : Value} (h : RepA0 w ok m st.hp q v) : ∃ ok1 : Nat → Prop, (∀ b, ok1 b → ok b ∨ (∃ id e t xs, fnd id st.hp = some (.row e t xs) ∧ blk (m id) = some b)) ∧ ∀ hp m', RepA0 w ok1 m' hp (q.arg st.hp) v := by
  refine ⟨fun b => ok b ∨ (∃ id e t xs, fnd id st.hp = some (.row e t xs) ∧ blk (m id) = some b), fun _ h => h, fun hp m' => ?_⟩
  have hv := ro_rep (hp' := []) (ok' := fun b => ok b ∨ (∃ id e t xs, fnd id st.hp = some (.row e t xs) ∧ blk (m id) = some b)) r (fun b hb => .inl hb) (fun _ _ h => by simp [fnd] at h) (fun d _ e t xs hf b hb => .inr ⟨d, e, t, xs, hf, hb⟩) h
  revert hv
  unfold AV0.arg
  cases AV0.ro st.hp q with
  | tv _ _ => exact fun h => h
  | rptr _ _ => exact fun h => h
  | fn _ => exact fun h => h
  | own _ _ _ => exact fun _ => trivial
  | un => exact fun _ => trivial
  | row _ => exact fun _ => trivial
  | ptr _ _ => exact fun _ => trivial
  | elt _ _ _ => exact fun _ => trivial

/-- A function's results. -/
theorem arg_not_own {hp : List (Nat × Ob)} {q : AV0} {e : TypeId} {t : Ty} {xs : List t.D} : AV0.arg hp q = .own e t xs → False := by
  unfold AV0.arg
  generalize AV0.ro hp q = r
  cases r <;> simp

theorem ressA_run (h : Here P cx w0 ok0 m ok st a w) : ∀ (rs : List ResultVar) (J : List AV0 → Prop), ressA cx st rs J →
    ∃ (res : List AV0) (us : List Value) (ok' : Nat → Prop), J res ∧ us.length = res.length ∧ (rs.mapM (resOne a.tmps)).run P w = .ok us w ∧
      (∀ b, ok' b → b < w.heap.size ∧ (ok0 b ∨ w0.heap.size ≤ b)) ∧ (cx.own = true → ∀ b, ok' b → ok b) ∧ (∀ (i : Nat) (x : AV0), res[i]? = some x → ∃ u, us[i]? = some u ∧ ∀ hp m, RepA0 w ok' m hp x u) ∧
      ∀ (i : Nat) (e : TypeId) (t : Ty) (xs : List t.D) (u : Value), res[i]? = some (.own e t xs) → us[i]? = some u → cx.own = true ∧ ∃ inner, w.ownsRow 0 e t.size u xs.length inner ∧ RepL (Rep w ok' t) xs inner ∧ ∀ b, blk u = some b → ¬ ok b ∧ w0.heap.size ≤ b
  | [], J, hj => ⟨[], [], fun _ => False, hj, rfl, by simp, fun _ h => h.elim, fun _ _ h => h.elim, fun i x hx => by simp at hx, fun i e t xs u hx => by simp at hx⟩
  | r :: rs, J, hj => by
    simp only [ressA] at hj
    have main : ∀ (y : AV0) (u : Value), (resOne a.tmps r).run P w = .ok u w → (∃ ok1 : Nat → Prop, (∀ b, ok1 b → b < w.heap.size ∧ (ok0 b ∨ w0.heap.size ≤ b)) ∧ (cx.own = true → ∀ b, ok1 b → ok b) ∧ (∀ hp m, RepA0 w ok1 m hp y u) ∧
          ∀ (e : TypeId) (t : Ty) (xs : List t.D), y = .own e t xs → cx.own = true ∧ ∃ inner, w.ownsRow 0 e t.size u xs.length inner ∧ RepL (Rep w ok1 t) xs inner ∧ ∀ b, blk u = some b → ¬ ok b ∧ w0.heap.size ≤ b) → ressA cx st rs (fun l => J (y :: l)) →
        ∃ (res : List AV0) (us : List Value) (ok' : Nat → Prop), J res ∧ us.length = res.length ∧ ((r :: rs).mapM (resOne a.tmps)).run P w = .ok us w ∧
          (∀ b, ok' b → b < w.heap.size ∧ (ok0 b ∨ w0.heap.size ≤ b)) ∧ (cx.own = true → ∀ b, ok' b → ok b) ∧ (∀ (i : Nat) (x : AV0), res[i]? = some x → ∃ u, us[i]? = some u ∧ ∀ hp m, RepA0 w ok' m hp x u) ∧
          ∀ (i : Nat) (e : TypeId) (t : Ty) (xs : List t.D) (u : Value), res[i]? = some (.own e t xs) → us[i]? = some u → cx.own = true ∧ ∃ inner, w.ownsRow 0 e t.size u xs.length inner ∧ RepL (Rep w ok' t) xs inner ∧ ∀ b, blk u = some b → ¬ ok b ∧ w0.heap.size ≤ b := by
      intro y u hrun ⟨ok1, hok1, hown1, hy, hyo⟩ hrest
      obtain ⟨res, us, ok2, hj, hl, hm, hok2, hown2, hr, hro⟩ := ressA_run h rs _ hrest
      refine ⟨y :: res, u :: us, fun b => ok1 b ∨ ok2 b, hj, by simp [hl], ?_, fun b hb => hb.elim (hok1 b) (hok2 b), fun ho b hb => hb.elim (hown1 ho b) (hown2 ho b), fun i x hx => ?_, fun i e t xs u' hx hu => ?_⟩
      · rw [List.mapM_cons]
        simp only [Sem.run_bind, hrun, Result.andThen_ok, hm, Sem.run_pure]
      · cases i with
        | zero => simp at hx; subst hx; exact ⟨u, rfl, fun hp m => RepA0.ok_ (fun b hb => .inl hb) (hy hp m)⟩
        | succ i =>
          obtain ⟨u', hu, hr'⟩ := hr i x (by simpa using hx)
          exact ⟨u', by simpa using hu, fun hp m => RepA0.ok_ (fun b hb => .inr hb) (hr' hp m)⟩
      · cases i with
        | zero =>
          simp at hx hu
          subst hu
          obtain ⟨h0, inner, h1, h2, h3⟩ := hyo e t xs hx
          exact ⟨h0, inner, h1, RepL.imp (fun x c r => r.move (fun _ _ => rfl) (fun b hb => .inl hb)) h2, h3⟩
        | succ i =>
          obtain ⟨h0, inner, h1, h2, h3⟩ := hro i e t xs u' (by simpa using hx) (by simpa using hu)
          exact ⟨h0, inner, h1, RepL.imp (fun x c r => r.move (fun _ _ => rfl) (fun b hb => .inr hb)) h2, h3⟩
    cases r with
    | tmp t =>
      simp only [resA] at hj
      unfold one at hj
      split at hj
      · rename_i q hq
        have hx := h.r.env t
        rw [hq] at hx
        replace hx : RepA0 w ok m st.hp q (a.tmps.getD t undef) := hx
        rcases Bool.eq_false_or_eq_true cx.own with hown | hown
        rotate_left
        · rw [hown, cond_false] at hj
          obtain ⟨ok1, hok1, hy⟩ := AV0.arg_rep h.r hx
          refine main _ _ (by simp [resOne]) ⟨ok1, fun b hb => ?_, (fun e => by rw [hown] at e; cases e), hy, fun e t' xs he => ?_⟩ hj
          · rcases hok1 b hb with hb | ⟨id, e, t, xs, hf, hb⟩
            · exact ⟨h.r.okb b hb, h.f b hb⟩
            · exact ⟨(h.r.sep id _ b hf hb).2.2, .inr (h.r.sep id _ b hf hb).2.1⟩
          · exact (arg_not_own he).elim
        · rw [hown, cond_true] at hj
          unfold ownRes at hj
          split at hj
          · rename_i id
            split at hj
            · rename_i e t' xs hf
              obtain ⟨inner, h1, h2⟩ := h.r.ob id _ hf
              rw [← hx _ _ _ hf] at h1
              refine main (.own e t' xs) (a.tmps.getD t undef) (by simp [resOne]) ⟨ok, fun b hb => ⟨h.r.okb b hb, h.f b hb⟩, fun _ _ h => h, fun _ _ => trivial, fun e2 t2 xs2 he => ?_⟩ hj
              cases he
              refine ⟨hown, inner, h1, h2, fun b hb => ?_⟩
              rw [hx _ _ _ hf] at hb
              exact ⟨(h.r.sep id _ b hf hb).1, (h.r.sep id _ b hf hb).2.1⟩
            · exact hj.elim
          · refine main (.tv _ _) (a.tmps.getD t undef) (by simp [resOne]) ⟨ok, fun b hb => ⟨h.r.okb b hb, h.f b hb⟩, fun _ _ h => h, fun _ _ => hx, fun e2 t2 xs2 he => by cases he⟩ hj
          · exact hj.elim
      · exact hj.elim
    | cell x T =>
      simp only [resA] at hj
      unfold one at hj
      split at hj
      · rename_i q hq
        have hx := h.r.env x
        rw [hq] at hx
        obtain ⟨t', y, u, ad, hj, e, hv, rv⟩ := loadA_run h (show RepA0 w ok m st.hp q (a.tmps.getD x undef) from hx) hj
        exact main (.tv t' y) u (by simp only [resOne, e, asAddr, Sem.run_bind, Sem.run_pure, Result.andThen_ok, hv]) ⟨ok, fun b hb => ⟨h.r.okb b hb, h.f b hb⟩, fun _ _ h => h, fun _ _ => rv, fun _ _ _ he => by cases he⟩ hj
      · exact hj.elim

theorem tupV_eq (us : List Value) : (if h : us.toArray.size = 1 then us.toArray[0] else .tuple us.toArray) = tupV us := by
  match us with
  | [] => rfl
  | [u] => rfl
  | u :: v :: us => simp [tupV]

/-- **A function's contract out of its body, run by the abstract machine.** -/
theorem fn_ok (hcx : CxOk P cx) {n : FuncId} {fn : Func} (hf : P.funcs[n]? = some fn) {F : List AV0 → (List AV0 → Prop) → Prop} (hF : ∀ args J, F args J → ∃ ct, FnCuts cx ct fn ∧ fnA cx ct fn args J) : FnOK P n F := by
  intro args J hJ w ok vals hok hlen hargs
  obtain ⟨ct, hct, h⟩ := hF args J hJ
  unfold fnA at h
  split at h
  · rename_i c hb
    simp only [FnCuts, hb] at hct
    have hrel : RelE w ok (initA fn.ntmps args) { tmps := vals.toArray ++ Array.replicate (fn.ntmps - vals.toArray.size) undef, defers := [] } w := by
      refine ⟨fun _ => undef, ok, ⟨rfl, by simp [initA, hlen], fun i => ?_, fun id o hf => by simp [initA, fnd] at hf, fun id o b hf => by simp [initA, fnd] at hf, fun i i' o o' b hf => by simp [initA, fnd] at hf, hok, Below.refl _ _⟩, fun b hb => .inl hb⟩
      show RepA w ok _ [] ((args.map AV.v ++ List.replicate (fn.ntmps - args.length) (AV.v .un)).getD i (AV.v .un)) _
      rcases Nat.lt_or_ge i args.length with hi | hi
      · obtain ⟨v, hv, hr⟩ := hargs i args[i] (List.getElem?_eq_getElem hi)
        have hiv : i < vals.length := by omega
        rw [List.getD_eq_getElem?_getD, List.getElem?_append_left (by simpa using hi), List.getElem?_map, List.getElem?_eq_getElem hi]
        rw [Array.getD_eq_getD_getElem?, Array.getElem?_append_left (by simpa using hiv)]
        rw [List.getElem?_toArray, hv]
        exact hr _ _
      · have : (args.map AV.v ++ List.replicate (fn.ntmps - args.length) (AV.v .un)).getD i (AV.v .un) = AV.v .un := by
          rw [List.getD_eq_getElem?_getD, List.getElem?_append_right (by simpa using hi), List.getElem?_replicate]
          split <;> rfl
        rw [this]; trivial
    refine calls_of_wp hf hb (wp_mono (awp_sound hcx c (fun U => U) hct.1 hct.2 _ _ _ _ _ rfl h hrel) ?_)
    rintro e a' w' ⟨ae, st, he, hj, m, ok', r, f⟩
    have fin : ressA cx st fn.results.toList J → a'.defers = [] ∧ ∃ v, (results fn a'.tmps).run P w' = .ok v w' ∧ ∃ (res : List AV0) (us : List Value) (v' : Value) (okr : Nat → Prop), J res ∧ Ending.returned v = .returned v' ∧ Below w.heap.size w w' ∧ us.length = res.length ∧ v' = tupV us ∧
      (∀ b, okr b → ok b ∨ (w.heap.size ≤ b ∧ b < w'.heap.size)) ∧ (∀ (i : Nat) (x : AV0), res[i]? = some x → ∃ u, us[i]? = some u ∧ ∀ hp m, RepA0 w' okr m hp x u) ∧
      ∀ (i : Nat) (e : TypeId) (t : Ty) (xs : List t.D) (u : Value), res[i]? = some (.own e t xs) → us[i]? = some u → ∃ inner, w'.ownsRow 0 e t.size u xs.length inner ∧ RepL (Rep w' okr t) xs inner ∧ ∀ b, blk u = some b → ¬ okr b ∧ w.heap.size ≤ b := by
      intro hj
      obtain ⟨res, us, ok2, hj, hl, hm, hok2, hown2, hr, hro⟩ := ressA_run ⟨hcx, r, f⟩ _ _ hj
      refine ⟨r.defers, tupV us, ?_, res, us, tupV us, ok2, hj, rfl, r.keep, hl, rfl, fun b hb => ?_, hr, fun i e t xs u hx hu => ?_⟩
      · rw [results_eq, Array.mapM_eq_mapM_toList]
        simp only [Sem.run_bind, Sem.run_map, hm, Result.andThen_ok, Sem.run_pure]
        rw [← tupV_eq us]
      · obtain ⟨h1, h2⟩ := hok2 b hb
        exact h2.elim .inl (fun h2 => .inr ⟨h2, h1⟩)
      · obtain ⟨h0, inner, h1, h2, h3⟩ := hro i e t xs u hx hu
        exact ⟨inner, h1, h2, fun b hb => ⟨fun hk => (h3 b hb).1 (hown2 h0 b hk), (h3 b hb).2⟩⟩
    cases ae with
    | normal => cases e <;> first | exact he.elim | exact fin hj
    | exit i => exact hj.elim
    | ret => cases e <;> first | exact he.elim | exact fin hj
  · exact h.elim

end
end Go.Iv
