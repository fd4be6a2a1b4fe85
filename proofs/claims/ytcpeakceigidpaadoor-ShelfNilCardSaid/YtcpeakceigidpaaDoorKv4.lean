/- How the relation is kept: new objects, objects that are only read from now on, objects' names; parts of values. -/
import Derived.Test.YtcpeakceigidpaaDoorKv3
set_option linter.all false
namespace Go.Iv
open Go.RowKit
variable [GL]
theorem cast?_some {t t' : Ty} {x : t.D} {y : t'.D} (h : cast? t t' x = some y) : ∃ e : t = t', y = e ▸ x := by
 unfold cast? at h
 split at h
 · rename_i e; exact ⟨e, by cases h; rfl⟩
 · cases h
theorem cast?_rep {w : World} {ok : Nat → Prop} {t t' : Ty} {x : t.D} {y : t'.D} {cs : List Value} (h : cast? t t' x = some y) (r : Rep w ok t x cs) : Rep w ok t' y cs := by
 obtain ⟨rfl, rfl⟩ := cast?_some h
 exact r
theorem at0_some {t t' : Ty} {x : t.D} {off : Nat} {y : t'.D} (h : at0 t t' x off = some y) : off = 0 ∧ cast? t t' x = some y := by
 cases off with
 | zero => exact ⟨rfl, h⟩
 | succ n => cases h
theorem at0_get {w : World} {ok : Nat → Prop} {t t' : Ty} {x : t.D} {off : Nat} {y : t'.D} {cs : List Value} (h : at0 t t' x off = some y) (r : Rep w ok t x cs) : ∃ c d e, cs = c ++ d ++ e ∧ c.length = off ∧ Rep w ok t' y d := by
 obtain ⟨rfl, hc⟩ := at0_some h
 exact ⟨[], cs, [], by simp, rfl, cast?_rep hc r⟩
theorem at0_set {w : World} {ok : Nat → Prop} {t t' : Ty} {x x' : t.D} {off : Nat} {y : t'.D} {cs d' : List Value} (h : at0 t' t y off = some x') (r : Rep w ok t x cs) (r' : Rep w ok t' y d') : ∃ c d e, cs = c ++ d ++ e ∧ c.length = off ∧ d.length = d'.length ∧ Rep w ok t x' (c ++ d' ++ e) := by
 obtain ⟨rfl, hc⟩ := at0_some h
 have rz := cast?_rep hc r'
 exact ⟨[], cs, [], by simp, rfl, by rw [r.len, rz.len], by simpa using rz⟩
theorem fnd_del_some {id d : Nat} {hp : List (Nat × Ob)} {o : Ob} (h : fnd id (del d hp) = some o) : fnd id hp = some o := by
 rw [fnd_del] at h
 split at h
 · cases h
 · exact h
theorem getAt_rep {w : World} {ok : Nat → Prop} : ∀ {t t' : Ty} {x : t.D} {y : t'.D} {off : Nat} {cs : List Value}, getAt t x off t' = some y → Rep w ok t x cs →
 ∃ c d e, cs = c ++ d ++ e ∧ c.length = off ∧ Rep w ok t' y d := by
 intro t
 induction t with
 | pair a b iha ihb =>
  intro t' x y off cs h r
  obtain ⟨x1, x2⟩ := x
  unfold getAt at h
  split at h
  · rename_i z hc
    cases h
    exact at0_get hc r
  · obtain ⟨c1, c2, rfl, r1, r2⟩ := r
    simp only [nblt] at h
    by_cases hlt : off < a.size
    · simp only [hlt, decide_true, cond_true] at h
      obtain ⟨c, d, e, rfl, hl, rr⟩ := iha h r1
      exact ⟨c, d, e ++ c2, by simp, hl, rr⟩
    · simp only [hlt, decide_false, cond_false] at h
      obtain ⟨c, d, e, rfl, hl, rr⟩ := ihb h r2
      refine ⟨c1 ++ c, d, e, by simp, ?_, rr⟩
      rw [List.length_append, r1.len, hl]; omega
 | _ =>
  intro t' x y off cs h r
  unfold getAt at h
  exact at0_get h r
theorem setAt_rep {w : World} {ok : Nat → Prop} : ∀ {t t' : Ty} {x x' : t.D} {y : t'.D} {off : Nat} {cs d' : List Value}, setAt t x off t' y = some x' → Rep w ok t x cs → Rep w ok t' y d' →
 ∃ c d e, cs = c ++ d ++ e ∧ c.length = off ∧ d.length = d'.length ∧ Rep w ok t x' (c ++ d' ++ e) := by
 intro t
 induction t with
 | pair a b iha ihb =>
  intro t' x x' y off cs d' h r r'
  obtain ⟨x1, x2⟩ := x
  unfold setAt at h
  split at h
  · rename_i z hc
    cases h
    exact at0_set hc r r'
  · obtain ⟨c1, c2, rfl, r1, r2⟩ := r
    simp only [nblt] at h
    by_cases hlt : off < a.size
    · simp only [hlt, decide_true, cond_true] at h
      cases h1 : setAt a x1 off t' y with
      | none => rw [h1] at h; simp at h
      | some z =>
       rw [h1] at h; simp at h; subst h
       obtain ⟨c, d, e, rfl, hl, hd, rr⟩ := iha h1 r1 r'
       exact ⟨c, d, e ++ c2, by simp, hl, hd, _, c2, by simp, rr, r2⟩
    · simp only [hlt, decide_false, cond_false] at h
      cases h1 : setAt b x2 (off - a.size) t' y with
      | none => rw [h1] at h; simp at h
      | some z =>
       rw [h1] at h; simp at h; subst h
       obtain ⟨c, d, e, rfl, hl, hd, rr⟩ := ihb h1 r2 r'
       refine ⟨c1 ++ c, d, e, by simp, ?_, hd, c1, _, by simp, r1, rr⟩
       rw [List.length_append, r1.len, hl]; omega
 | _ =>
  intro t' x x' y off cs d' h r r'
  unfold setAt at h
  exact at0_set h r r'
section
variable {w0 : Bas} {w w' : World} {m m' : Nat → Value} {ok ok' : Nat → Prop} {st : St} {a : Act} {hp hp' : List (Nat × Ob)} {d : Nat}
theorem cAny_no {d : Nat} : ∀ {rs : List (Nat × Nat)}, cAny d rs = false → ∀ p ∈ rs, p.2 = 0 ∨ cId p.2 ≠ d
 | [], _, p, hp => by simp at hp
 | q :: r, h, p, hp => by
  simp only [cAny] at h
  cases hq : cOf d q.2 with
  | true => rw [hq] at h; cases h
  | false =>
   rw [hq, cond_false] at h
   rcases List.mem_cons.1 hp with rfl | hp
   · unfold cOf at hq
     rw [nbeq, nbeq] at hq
     by_cases e : p.2 = 0
     · exact .inl e
     · simp [e] at hq; exact .inr hq
   · exact cAny_no h p hp
theorem RepR.kill_ (hm : ∀ id, id ≠ d → m' id = m id) (hf : ∀ id, id ≠ d → fnd id hp' = fnd id hp) {c : Nat} {v : Value} (hc : c = 0 ∨ cId c ≠ d) (h : RepR m hp (cAV c) v) : RepR m' hp' (cAV c) v := by
 unfold cAV at h ⊢
 cases h1 : Nat.beq c 0 with
 | true => rw [h1] at h; exact h
 | false =>
  have hc : cId c ≠ d := hc.resolve_left (Nat.ne_of_beq_eq_false h1)
  rw [h1] at h
  simp only [cond_false] at h ⊢
  cases h2 : Nat.beq (c % 2) 1 with
  | true => rw [h2] at h; simp only [cond_true, RepR, hm _ hc, hf _ hc] at h ⊢; exact h
  | false => rw [h2] at h; simp only [cond_false, RepR, hm _ hc, hf _ hc] at h ⊢; exact h
theorem RepA0.kill_ (hm : ∀ id, id ≠ d → m' id = m id) (hf : ∀ id, id ≠ d → fnd id hp' = fnd id hp) : ∀ {x : AV0} {v : Value}, RepA0 w ok m hp x v → RepA0 w ok m' hp' (x.kill d) v
 | .tv _ _, _, h => h
 | .rptr _ _, _, h => h
 | .fn _, _, h => h
 | .nilp, _, h => h
 | .own _ _ _, _, _ => trivial
 | .un, _, _ => trivial
 | .str t x rs, v, h => by
  simp only [AV0.kill]
  cases e : cAny d rs with
  | true => exact True.intro
  | false =>
   obtain ⟨cs, h1, h2, h3⟩ := h
   exact ⟨cs, h1, h2, fun p hp => let ⟨u, hu, hr⟩ := h3 p hp; ⟨u, hu, RepR.kill_ hm hf (cAny_no e p hp) hr⟩⟩
 | .sub id _ _, v, h => by
  simp only [AV0.kill, nbeq]
  by_cases e : id = d
  · simp [e, RepA0]
  · simp only [e, decide_false, cond_false, RepA0, hm _ e, hf _ e]; exact h
 | .row id, v, h => by
  simp only [AV0.kill, nbeq]
  by_cases e : id = d
  · simp [e, RepA0]
  · simp only [e, decide_false, cond_false, RepA0, hm _ e, hf _ e]; exact h
 | .ptr id _, v, h => by
  simp only [AV0.kill, nbeq]
  by_cases e : id = d
  · simp [e, RepA0]
  · simp only [e, decide_false, cond_false, RepA0, hm _ e, hf _ e]; exact h
 | .elt id _ _, v, h => by
  simp only [AV0.kill, nbeq]
  by_cases e : id = d
  · simp [e, RepA0]
  · simp only [e, decide_false, cond_false, RepA0, hm _ e, hf _ e]; exact h
 | .bel id _ _ _ _ _, v, h => by
  simp only [AV0.kill, nbeq]
  by_cases e : id = d
  · simp [e, RepA0]
  · simp only [e, decide_false, cond_false, RepA0, hm _ e, hf _ e]; exact h
 | .wbx id _ _ _ _, v, h => by
  simp only [AV0.kill, nbeq]
  by_cases e : id = d
  · simp [e, RepA0]
  · simp only [e, decide_false, cond_false, RepA0, hm _ e, hf _ e]; exact h
 | .clo _ _ _, _, h => h
 | .glb _, _, h => h
 | .gel _ _, _, h => h
theorem RepA.map {f : AV0 → AV0} (hf : ∀ {x : AV0} {v : Value}, RepA0 w ok m hp x v → RepA0 w ok' m' hp' (f x) v) {l : List AV0} {v : Value} (h : RepA w ok m hp (.tup l) v) : RepA w ok' m' hp' (.tup (l.map f)) v := by
 obtain ⟨us, e, hl, h⟩ := h
 refine ⟨us, e, by simp [hl], fun i x hx => ?_⟩
 rw [List.getElem?_map] at hx
 cases hy : l[i]? with
 | none => rw [hy] at hx; simp at hx
 | some y => rw [hy] at hx; simp at hx; subst hx; obtain ⟨u, hu, hr⟩ := h i y hy; exact ⟨u, hu, hf hr⟩
theorem RepA.kill_ (hm : ∀ id, id ≠ d → m' id = m id) (hf : ∀ id, id ≠ d → fnd id hp' = fnd id hp) : ∀ {x : AV} {v : Value}, RepA w ok m hp x v → RepA w ok m' hp' (x.kill d) v
 | .v _, _, h => RepA0.kill_ hm hf h
 | .tup _, _, h => RepA.map (RepA0.kill_ hm hf) h
theorem Rel.mk0 (r : Rel w0 m ok st a w) (d : Nat) (o : Ob) (x : AV0) (u v : Value) (ho : RepO w ok o u) (hx : RepA0 w ok (fun i => if i = d then u else m i) (ins d o st.hp) x v)
 (hs : ∀ b, blk u = some b → ¬ ok b ∧ w0.fr b ∧ b < w.heap.size) (hi : ∀ b id o', id ≠ d → fnd id st.hp = some o' → blk u = some b → blk (m id) ≠ some b) (hd : d < st.n) :
 Rel w0 (fun i => if i = d then u else m i) ok (st.mk0 d o x) (a.put (some d) v) w := by
 refine ⟨r.defers, by simp [St.mk0, Act.put, r.size], ?_, ?_, ?_, ?_, r.okb, r.keep, fun id q hq => ⟨(r.pins id q hq).1, fun o2 ho2 => ?_⟩, ?_⟩
 · intro i
   show RepA w ok _ (ins d o st.hp) (fndE i (setE st.n d (.v x) (mapE (AV.kill d) st.env))) ((a.tmps.setIfInBounds d v).getD i undef)
   rw [fndE_set, getD_setIfInBounds, r.size]
   split
   · exact hx
   · rw [fndE_map (AV.kill d) rfl]
     exact RepA.kill_ (fun id h => by simp [h]) (fun id h => by rw [fnd_ins]; simp [h]) (r.env i)
 · intro id o' ho'
   simp only [St.mk0, fnd_ins] at ho'
   by_cases e : id = d
   · simp [e] at ho'; subst ho'; simpa [e] using ho
   · simp [e] at ho'; simpa [e] using r.ob id o' ho'
 · intro id o' b ho' hb
   simp only [St.mk0, fnd_ins] at ho'
   by_cases e : id = d
   · simp [e] at hb; exact hs b hb
   · simp [e] at ho' hb; exact r.sep id o' b ho' hb
 · intro id id' o1 o2 b h1 h2 hb1 hb2
   simp only [St.mk0, fnd_ins] at h1 h2
   by_cases e : id = d
   · by_cases e' : id' = d
     · rw [e, e']
     · simp [e] at hb1; simp [e'] at h2 hb2; exact absurd hb2 (hi b id' o2 e' h2 hb1)
   · by_cases e' : id' = d
     · simp [e'] at hb2; simp [e] at h1 hb1; exact absurd hb1 (hi b id o1 e h1 hb2)
     · simp [e, e'] at h1 h2 hb1 hb2; exact r.inj id id' o1 o2 b h1 h2 hb1 hb2
 · have h1 := r.pins id q hq
   have hne : id ≠ d := fun e => by have := h1.1; omega
   simp only [St.mk0, fnd_ins, if_neg hne] at ho2
   simp only [if_neg hne]
   exact h1.2 _ ho2
 · intro id off hu T t y hf
   simp only [St.mk0, fnd_ins] at hf
   simp only [St.mk0] at hu ⊢
   rw [fndR_map _ rfl, fndR_off] at hu ⊢
   by_cases e : id = d
   · rw [if_pos e] at hu; exact (hu rfl).elim
   · rw [if_neg e] at hf hu
     simp only [if_neg e]
     have hu' : fndR id off st.rf ≠ .un := fun e => hu (by rw [e]; rfl)
     obtain ⟨b, v, e1, hc, hr⟩ := r.rfs id off hu' T t y hf
     exact ⟨b, v, e1, hc, RepA0.kill_ (m := m) (hp := st.hp) (fun id h => by simp [h]) (fun id h => by rw [fnd_ins]; simp [h]) hr⟩
theorem Rel.mk_ (r : Rel w0 m ok st a w) (d : Nat) (o : Ob) (x : AV0) (u v : Value) (ho : RepO w ok o u) (hx : RepA0 w ok (fun i => if i = d then u else m i) (ins d o st.hp) x v)
 (hs : ∀ b, blk u = some b → ¬ ok b ∧ w0.fr b ∧ b < w.heap.size) (hi : ∀ b id o', id ≠ d → fnd id st.hp = some o' → blk u = some b → blk (m id) ≠ some b) :
 Rel w0 (fun i => if i = d ∧ d < st.n then u else m i) ok (st.mk_ d o x) (a.put (some d) v) w := by
 by_cases hd : d < st.n
 · have e1 : st.mk_ d o x = st.mk0 d o x := by unfold St.mk_; rw [nblt, decide_eq_true hd]; rfl
   have e2 : (fun i => if i = d ∧ d < st.n then u else m i) = fun i => if i = d then u else m i := by funext i; simp [hd]
   rw [e1, e2]
   exact r.mk0 d o x u v ho hx hs hi hd
 · have e1 : st.mk_ d o x = st := by unfold St.mk_; rw [nblt, decide_eq_false hd]; rfl
   have e2 : (fun i => if i = d ∧ d < st.n then u else m i) = m := by funext i; simp [hd]
   have e3 : a.put (some d) v = a := by
    show ({ a with tmps := a.tmps.setIfInBounds d v } : Act) = a
    rw [show a.tmps.setIfInBounds d v = a.tmps from by
     unfold Array.setIfInBounds
     rw [dif_neg (by rw [r.size]; exact hd)]]
   rw [e1, e2, e3]
   exact r
theorem Rel.mkT0 (r : Rel w0 m ok st a w) (d : Nat) (o : Ob) (x : List AV0) (u v : Value) (ho : RepO w ok o u) (hx : RepA w ok (fun i => if i = d then u else m i) (ins d o st.hp) (.tup x) v)
 (hs : ∀ b, blk u = some b → ¬ ok b ∧ w0.fr b ∧ b < w.heap.size) (hi : ∀ b id o', id ≠ d → fnd id st.hp = some o' → blk u = some b → blk (m id) ≠ some b) (hd : d < st.n) :
 Rel w0 (fun i => if i = d then u else m i) ok (st.mkT0 d o x) (a.put (some d) v) w := by
 refine ⟨r.defers, by simp [St.mkT0, Act.put, r.size], ?_, ?_, ?_, ?_, r.okb, r.keep, fun id q hq => ⟨(r.pins id q hq).1, fun o2 ho2 => ?_⟩, ?_⟩
 · intro i
   show RepA w ok _ (ins d o st.hp) (fndE i (setE st.n d (.tup x) (mapE (AV.kill d) st.env))) ((a.tmps.setIfInBounds d v).getD i undef)
   rw [fndE_set, getD_setIfInBounds, r.size]
   split
   · exact hx
   · rw [fndE_map (AV.kill d) rfl]
     exact RepA.kill_ (fun id h => by simp [h]) (fun id h => by rw [fnd_ins]; simp [h]) (r.env i)
 · intro id o' ho'
   simp only [St.mkT0, fnd_ins] at ho'
   by_cases e : id = d
   · simp [e] at ho'; subst ho'; simpa [e] using ho
   · simp [e] at ho'; simpa [e] using r.ob id o' ho'
 · intro id o' b ho' hb
   simp only [St.mkT0, fnd_ins] at ho'
   by_cases e : id = d
   · simp [e] at hb; exact hs b hb
   · simp [e] at ho' hb; exact r.sep id o' b ho' hb
 · intro id id' o1 o2 b h1 h2 hb1 hb2
   simp only [St.mkT0, fnd_ins] at h1 h2
   by_cases e : id = d
   · by_cases e' : id' = d
     · rw [e, e']
     · simp [e] at hb1; simp [e'] at h2 hb2; exact absurd hb2 (hi b id' o2 e' h2 hb1)
   · by_cases e' : id' = d
     · simp [e'] at hb2; simp [e] at h1 hb1; exact absurd hb1 (hi b id o1 e h1 hb2)
     · simp [e, e'] at h1 h2 hb1 hb2; exact r.inj id id' o1 o2 b h1 h2 hb1 hb2
 · have h1 := r.pins id q hq
   have hne : id ≠ d := fun e => by have := h1.1; omega
   simp only [St.mkT0, fnd_ins, if_neg hne] at ho2
   simp only [if_neg hne]
   exact h1.2 _ ho2
 · intro id off hu T t y hf
   simp only [St.mkT0, fnd_ins] at hf
   simp only [St.mkT0] at hu ⊢
   rw [fndR_map _ rfl, fndR_off] at hu ⊢
   by_cases e : id = d
   · rw [if_pos e] at hu; exact (hu rfl).elim
   · rw [if_neg e] at hf hu
     simp only [if_neg e]
     have hu' : fndR id off st.rf ≠ .un := fun e => hu (by rw [e]; rfl)
     obtain ⟨b, v, e1, hc, hr⟩ := r.rfs id off hu' T t y hf
     exact ⟨b, v, e1, hc, RepA0.kill_ (m := m) (hp := st.hp) (fun id h => by simp [h]) (fun id h => by rw [fnd_ins]; simp [h]) hr⟩
theorem Rel.mkT_ (r : Rel w0 m ok st a w) (d : Nat) (o : Ob) (x : List AV0) (u v : Value) (ho : RepO w ok o u) (hx : RepA w ok (fun i => if i = d then u else m i) (ins d o st.hp) (.tup x) v)
 (hs : ∀ b, blk u = some b → ¬ ok b ∧ w0.fr b ∧ b < w.heap.size) (hi : ∀ b id o', id ≠ d → fnd id st.hp = some o' → blk u = some b → blk (m id) ≠ some b) :
 Rel w0 (fun i => if i = d ∧ d < st.n then u else m i) ok (st.mkT_ d o x) (a.put (some d) v) w := by
 by_cases hd : d < st.n
 · have e1 : st.mkT_ d o x = st.mkT0 d o x := by unfold St.mkT_; rw [nblt, decide_eq_true hd]; rfl
   have e2 : (fun i => if i = d ∧ d < st.n then u else m i) = fun i => if i = d then u else m i := by funext i; simp [hd]
   rw [e1, e2]
   exact r.mkT0 d o x u v ho hx hs hi hd
 · have e1 : st.mkT_ d o x = st := by unfold St.mkT_; rw [nblt, decide_eq_false hd]; rfl
   have e2 : (fun i => if i = d ∧ d < st.n then u else m i) = m := by funext i; simp [hd]
   have e3 : a.put (some d) v = a := by
    show ({ a with tmps := a.tmps.setIfInBounds d v } : Act) = a
    rw [show a.tmps.setIfInBounds d v = a.tmps from by
     unfold Array.setIfInBounds
     rw [dif_neg (by rw [r.size]; exact hd)]]
   rw [e1, e2, e3]
   exact r
theorem RepR.del_ : ∀ {x : AV0} {v : Value}, RepR m hp x v → RepR m (del d hp) x v
 | .row id, v, h => fun e t xs hf => by rw [fnd_del] at hf; split at hf; · cases hf
                                        · exact h e t xs hf
 | .ptr id _, v, h => fun e t xs hf => by rw [fnd_del] at hf; split at hf; · cases hf
                                          · exact h e t xs hf
 | .nilp, _, h => h
 | .tv _ _, _, _ => trivial
 | .rptr _ _, _, _ => trivial
 | .elt _ _ _, _, _ => trivial
 | .fn _, _, _ => trivial
 | .sub _ _ _, _, _ => trivial
 | .str _ _ _, _, _ => trivial
 | .bel _ _ _ _ _ _, _, _ => trivial
 | .wbx _ _ _ _ _, _, _ => trivial
 | .clo _ _ _, _, _ => trivial
 | .glb _, _, _ => trivial
 | .gel _ _, _, _ => trivial
 | .own _ _ _, _, _ => trivial
 | .un, _, _ => trivial
theorem RepA0.del_ : ∀ {x : AV0} {v : Value}, RepA0 w ok m hp x v → RepA0 w ok m (del d hp) x v
 | .tv _ _, _, h => h
 | .rptr _ _, _, h => h
 | .fn _, _, h => h
 | .nilp, _, h => h
 | .own _ _ _, _, _ => trivial
 | .un, _, _ => trivial
 | .str t x rs, v, ⟨cs, h1, h2, h3⟩ => ⟨cs, h1, h2, fun p hp => let ⟨u, hu, hr⟩ := h3 p hp; ⟨u, hu, RepR.del_ hr⟩⟩
 | .row id, v, h => RepR.del_ (x := .row id) h
 | .ptr id o, v, h => RepR.del_ (x := .ptr id o) h
 | .sub id _ _, v, h => fun e t xs hf => by rw [fnd_del] at hf; split at hf; · cases hf
                                            · exact h e t xs hf
 | .elt id _ _, v, h => fun e t xs hf => by rw [fnd_del] at hf; split at hf; · cases hf
                                            · exact h e t xs hf
 | .bel id _ _ _ _ _, v, h => fun e t xs hf => h e t xs (fnd_del_some hf)
 | .wbx id _ _ _ _, v, h => fun e t xs hf => h e t xs (fnd_del_some hf)
 | .clo _ _ _, _, h => h
 | .glb _, _, h => h
 | .gel _ _, _, h => h
theorem RepA.del_ : ∀ {x : AV} {v : Value}, RepA w ok m hp x v → RepA w ok m (del d hp) x v
 | .v _, _, h => RepA0.del_ h
 | .tup l, v, ⟨us, e, hl, h⟩ => ⟨us, e, hl, fun i a ha => let ⟨u, hu, hr⟩ := h i a ha; ⟨u, hu, RepA0.del_ hr⟩⟩
theorem Rel.del_ (r : Rel w0 m ok st a w) (d : Nat) : Rel w0 m ok { st with hp := del d st.hp } a w := by
 have key : ∀ {id o}, fnd id (del d st.hp) = some o → fnd id st.hp = some o := by
  intro id o h; rw [fnd_del] at h; split at h; · cases h
  · exact h
 exact ⟨r.defers, r.size, fun i => (r.env i).del_, fun id o h => r.ob id o (key h), fun id o b h => r.sep id o b (key h), fun id id' o o' b h h' => r.inj id id' o o' b (key h) (key h'), r.okb, r.keep, fun id v hq => ⟨(r.pins id v hq).1, fun o2 ho => (r.pins id v hq).2 _ (key ho)⟩, fun id off hu T t x hf => let ⟨b, v, e, hc, hr⟩ := r.rfs id off hu T t x (key hf); ⟨b, v, e, hc, RepA0.del_ hr⟩⟩
theorem RepA0.ok_ (hok : ∀ b, ok b → ok' b) {x : AV0} {v : Value} (h : RepA0 w ok m hp x v) : RepA0 w ok' m hp x v := RepA0.mono (fun _ _ => rfl) hok h
theorem row_reads {e : TypeId} {t : Ty} {xs : List t.D} {u : Value} (ho : RepO w ok (.row e t xs) u) : RepV w (fun b => ok b ∨ blk u = some b) (.sl e t) xs u := by
 obtain ⟨inner, hown, hr⟩ := ho
 have hr' := RepL.imp (fun x c (h : Rep w ok t x c) => h.move (fun _ _ => rfl) (ok' := fun b => ok b ∨ blk u = some b) (fun b hb => .inl hb)) hr
 rcases hown.2 with ⟨rfl, hn⟩ | ⟨g, cap, cur, rfl, hb, hg, hle, hcap, hsz, htake⟩
 · have : xs = [] := by simpa using hn
   subst this
   exact ⟨_, ⟨none, 0, [], rfl, Nat.le_refl _, .inl rfl, rfl⟩, by simp [Ty.isAgg]⟩
 · refine ⟨_, ⟨some ⟨g, 0, none⟩, cap, inner, rfl, hle, .inr ⟨_, rfl, .inr rfl, fun j v hj => ?_⟩, hr'⟩, by simp [Ty.isAgg]⟩
   exact World.ownsRow.cells (g := g) hown rfl j v hj
theorem Rel.drop (r : Rel w0 m ok st a w) (d : Nat) {T : TypeId} {t : Ty} {x : t.D} (hf : fnd d st.hp = some (.box T t x)) : ∃ ok', ((∀ b, ok b → ok' b) ∧ (∀ b, ok' b → ok b ∨ w0.fr b) ∧ (∀ b, blk (m d) = some b → ok' b)) ∧ Rel w0 m ok' (st.drop d) a w := by
 refine ⟨fun b => ok b ∨ blk (m d) = some b, ⟨fun b h => .inl h, fun b h => h.imp id (fun h => (r.sep d _ b hf h).2.1), fun b h => .inr h⟩, ⟨r.defersOr hf, r.size, ?_, ?_, ?_, ?_, ?_, r.keep, fun id v hq => ⟨(r.pins id v hq).1, fun o2 ho => (r.pins id v hq).2 _ (fnd_del_some ho)⟩, ?_⟩⟩
 · intro i
   show RepA w _ m (del d st.hp) (fndE i (mapE (AV.kill d) st.env)) _
   rw [fndE_map _ rfl]
   exact RepA.mono (ok := ok) (fun _ _ => rfl) (fun b hb => .inl hb) (RepA.kill_ (m := m) (hp := st.hp) (fun _ _ => rfl) (fun id h => by rw [fnd_del, if_neg h]) (r.env i))
 · intro id o h
   have := r.ob id o (fnd_del_some h)
   cases o with
   | box T t x => obtain ⟨b, cells, e, hb, hr⟩ := this; exact ⟨b, cells, e, hb, hr.move (fun _ _ => rfl) (fun b h => .inl h)⟩
   | row e t x => obtain ⟨inner, ho, hr⟩ := this; exact ⟨inner, ho, RepL.imp (fun x c h => h.move (fun _ _ => rfl) (fun b h => .inl h)) hr⟩
 · intro id o b h hb
   have h' : fnd id (del d st.hp) = some o := h
   rw [fnd_del] at h'
   split at h'
   · cases h'
   · rename_i hne
     refine ⟨?_, (r.sep id o b h' hb).2⟩
     rintro (h1 | h1)
     · exact (r.sep id o b h' hb).1 h1
     · exact hne (r.inj id d o _ b h' hf hb h1)
 · intro id id' o o' b h h' hb hb'
   exact r.inj id id' o o' b (fnd_del_some h) (fnd_del_some h') hb hb'
 · rintro b (h | h)
   · exact r.okb b h
   · exact (r.sep d _ b hf h).2.2
 · intro id off hu T' t' y hf'
   have hu2 : fndR id off (mapR (AV0.kill d) (offR d st.rf)) ≠ .un := hu
   have hf2 : fnd id (del d st.hp) = some (.box T' t' y) := hf'
   show ∃ b v, m id = _ ∧ _ ∧ RepA0 w _ m (del d st.hp) (fndR id off (mapR (AV0.kill d) (offR d st.rf))) v
   rw [fndR_map _ rfl, fndR_off] at hu2 ⊢
   rw [fnd_del] at hf2
   split at hf2
   · cases hf2
   · rename_i hne
     rw [if_neg hne] at hu2 ⊢
     have hu' : fndR id off st.rf ≠ .un := fun e => hu2 (by rw [e]; rfl)
     obtain ⟨b, v, e1, hc, hr⟩ := r.rfs id off hu' T' t' y hf2
     exact ⟨b, v, e1, hc, RepA0.mono (ok := ok) (fun _ _ => rfl) (fun b hb => .inl hb) (RepA0.kill_ (m := m) (hp := st.hp) (fun _ _ => rfl) (fun id h => by rw [fnd_del, if_neg h]) hr)⟩
theorem arr_reads {w : World} {ok ok' : Nat → Prop} {T : TypeId} {bt : Ty} {x : bt.D} {off n b : Nat} {e : TypeId} {t : Ty} {xs : List t.D} {v : Value} (ho : RepO w ok (.box T bt x) v) (hv : v = .pointer (some ⟨b, 0, none⟩)) (hg : getAt bt x off (.arr n t) = some xs) (h1 : ∀ b, ok b → ok' b) (h2 : ok' b) : RepV w ok' (.sl e t) xs (.slice (some ⟨b, off, none⟩) n n) ∧ RepP w ok' (.arr n t) xs (.pointer (some ⟨b, off, none⟩)) := by
 obtain ⟨b', cells, hm, hb, hr⟩ := ho
 rw [hv] at hm
 cases hm
 obtain ⟨c, dd, e', hcs, hl, hlen, hrl⟩ := getAt_rep hg hr
 have hlen : xs.length = n := hlen
 have hd : ∀ (j : Nat) (u : Value), dd[j]? = some u → w.cell? (Addr.add ⟨b, off, none⟩ j) = some u := by
  intro j u hu
  have e1 : Addr.add ⟨b, off, none⟩ j = ⟨b, off + j, none⟩ := by unfold Addr.add; split <;> simp_all
  rw [e1]
  have : cells.toList[off + j]? = some u := by
   rw [hcs, ← hl, List.getElem?_append_left (by have := (List.getElem?_eq_some_iff.1 hu).1; simp; omega), List.getElem?_append_right (by omega)]
   simpa using hu
  simp [World.cell?, hb] at this ⊢
  exact this
 have hrl' : RepL (Rep w ok' t) xs dd := RepL.imp (fun x c h => h.move (fun _ _ => rfl) h1) hrl
 exact ⟨⟨_, ⟨some ⟨b, off, none⟩, n, dd, by rw [hlen], by omega, .inr ⟨_, rfl, h2, hd⟩, hrl'⟩, by simp [Ty.isAgg]⟩, ⟨_, dd, rfl, h2, ⟨hlen, hrl'⟩, hd⟩⟩
theorem RepA0.melt_ {e : TypeId} {t : Ty} {xs : List t.D} (hf : fnd d hp = some (.row e t xs)) (ho : RepO w ok (.row e t xs) (m d)) : ∀ {x : AV0} {v : Value}, RepA0 w ok m hp x v → RepA0 w (fun b => ok b ∨ blk (m d) = some b) m (del d hp) (x.melt d e t xs) v
 | .tv _ _, _, h => RepA0.ok_ (fun b hb => .inl hb) h
 | .rptr t' x', v, h => RepA0.ok_ (ok := ok) (ok' := fun b => ok b ∨ blk (m d) = some b) (m := m) (hp := hp) (x := .rptr t' x') (fun b hb => Or.inl hb) h
 | .fn _, _, h => h
 | .own _ _ _, _, _ => trivial
 | .un, _, _ => trivial
 | .nilp, _, h => h
 | .ptr id off, v, h => RepA0.del_ (ok := _) (x := .ptr id off) h
 | .elt id i off, v, h => RepA0.del_ (x := .elt id i off) h
 | .sub id i n, v, h => RepA0.del_ (x := .sub id i n) h
 | .bel id o i f n t, v, h => RepA0.del_ (x := .bel id o i f n t) h
 | .wbx id o n e t, v, h => RepA0.del_ (x := .wbx id o n e t) h
 | .clo f t' x', v, h => RepA0.ok_ (ok := ok) (ok' := fun b => ok b ∨ blk (m d) = some b) (m := m) (hp := hp) (x := .clo f t' x') (fun b hb => Or.inl hb) h
 | .glb _, _, h => h
 | .gel _ _, _, h => h
 | .str t' x' rs, v, h => by
  simp only [AV0.melt]
  cases e' : cAny d rs with
  | true => exact True.intro
  | false => exact RepA0.del_ (x := .str t' x' rs) (RepA0.ok_ (ok := ok) (ok' := fun b => ok b ∨ blk (m d) = some b) (m := m) (hp := hp) (x := .str t' x' rs) (fun b hb => Or.inl hb) h)
 | .row id, v, h => by
  simp only [AV0.melt, nbeq]
  by_cases he : id = d
  · subst he
    have : v = m id := h _ _ _ hf
    subst this
    simp only [decide_true, cond_true]
    exact row_reads ho
  · simp only [he, decide_false, cond_false]
    exact RepA0.del_ (x := .row id) h
theorem RepA.melt_ {e : TypeId} {t : Ty} {xs : List t.D} (hf : fnd d hp = some (.row e t xs)) (ho : RepO w ok (.row e t xs) (m d)) : ∀ {x : AV} {v : Value}, RepA w ok m hp x v → RepA w (fun b => ok b ∨ blk (m d) = some b) m (del d hp) (x.melt d e t xs) v
 | .v _, _, h => RepA0.melt_ hf ho h
 | .tup _, _, h => RepA.map (RepA0.melt_ hf ho) h
theorem RepA0.meltB_ {T : TypeId} {t : Ty} {x : t.D} (hf : fnd d hp = some (.box T t x)) (ho : RepO w ok (.box T t x) (m d)) {y : AV0} {v : Value} (h : RepA0 w ok m hp y v) : RepA0 w (fun b => ok b ∨ blk (m d) = some b) m (del d hp) (y.meltB d t x) v := by
 have other : RepA0 w (fun b => ok b ∨ blk (m d) = some b) m (del d hp) (y.kill d) v := RepA0.mono (ok := ok) (fun _ _ => rfl) (fun b hb => .inl hb) (RepA0.kill_ (m := m) (hp := hp) (fun _ _ => rfl) (fun id h => by rw [fnd_del, if_neg h]) h)
 cases y with
 | wbx i off n e t' =>
  simp only [AV0.meltB]
  cases hb : Nat.beq i d with
  | true =>
   rw [cond_true]
   obtain rfl := Nat.eq_of_beq_eq_true hb
   split
   · rename_i xs hg
     obtain ⟨b, hm, hv⟩ := h _ _ _ hf
     subst hv
     exact (arr_reads ho hm hg (fun b hb => .inl hb) (.inr (by rw [hm]; rfl))).1
   · exact True.intro
  | false =>
   simp only [AV0.kill, hb, cond_false] at other
   simp only [cond_false]
   exact other
 | ptr i off =>
  simp only [AV0.meltB]
  cases hb : (Nat.beq i d && Nat.beq off 0) with
  | true =>
   rw [cond_true]
   simp only [Bool.and_eq_true] at hb
   obtain rfl := Nat.eq_of_beq_eq_true hb.1
   obtain rfl := Nat.eq_of_beq_eq_true hb.2
   obtain ⟨b, hm, hv⟩ := h _ _ _ hf
   obtain ⟨b', cells, hm', hc, hr⟩ := ho
   rw [hm] at hm'
   cases hm'
   exact ⟨⟨b, 0, none⟩, cells.toList, hv, .inr (by rw [hm]; rfl), hr.move (fun _ _ => rfl) (fun _ h => .inl h), fun j u hu => by
    rw [Addr.add_mid]
    simp only [World.cell?, Nat.zero_add, hc]
    simpa using hu⟩
  | false =>
   rw [cond_false]
   exact other
 | _ => exact other
theorem RepA.meltB_ {T : TypeId} {t : Ty} {x : t.D} (hf : fnd d hp = some (.box T t x)) (ho : RepO w ok (.box T t x) (m d)) : ∀ {y : AV} {v : Value}, RepA w ok m hp y v → RepA w (fun b => ok b ∨ blk (m d) = some b) m (del d hp) (y.meltB d t x) v
 | .v _, _, h => RepA0.meltB_ hf ho h
 | .tup _, _, h => RepA.map (RepA0.meltB_ hf ho) h
theorem Rel.freeze (r : Rel w0 m ok st a w) (d : Nat) : ∃ ok', ((∀ b, ok b → ok' b) ∧ (∀ b, ok' b → ok b ∨ w0.fr b) ∧ (∀ o, fnd d st.hp = some o → ∀ b, blk (m d) = some b → ok' b) ∧ (∀ id o, fnd id (st.freeze d).hp = some o → fnd id st.hp = some o) ∧ (∀ id, id ≠ d → fnd id (st.freeze d).hp = fnd id st.hp)) ∧ Rel w0 m ok' (st.freeze d) a w := by
 unfold St.freeze
 split
 · rename_i e t xs hf
   have ho := r.ob d _ hf
   refine ⟨fun b => ok b ∨ blk (m d) = some b, ⟨fun b h => .inl h, fun b h => h.imp id (fun h => (r.sep d _ b hf h).2.1), fun _ _ b h => .inr h, ?_, ?_⟩, ⟨r.defersOr hf, by simp [r.size], ?_, ?_, ?_, ?_, ?_, r.keep, fun id v hq => ⟨(r.pins id v hq).1, fun o2 ho => (r.pins id v hq).2 _ (fnd_del_some ho)⟩, ?_⟩⟩
   · intro id o h
     rw [fnd_del] at h
     split at h
     · cases h
     · exact h
   · intro id h
     rw [fnd_del, if_neg h]
   · intro i
     show RepA w _ m (del d st.hp) (fndE i (mapE (AV.melt d e t xs) st.env)) _
     rw [fndE_map _ rfl]
     exact RepA.melt_ hf ho (r.env i)
   · intro id o h
     rw [fnd_del] at h
     split at h
     · cases h
     · have := r.ob id o h
       cases o with
       | box T t x => obtain ⟨b, cells, e, hb, hr⟩ := this; exact ⟨b, cells, e, hb, hr.move (fun _ _ => rfl) (fun b h => .inl h)⟩
       | row e t x => obtain ⟨inner, ho, hr⟩ := this; exact ⟨inner, ho, RepL.imp (fun x c h => h.move (fun _ _ => rfl) (fun b h => .inl h)) hr⟩
   · intro id o b h hb
     rw [fnd_del] at h
     split at h
     · cases h
     · rename_i hne
       refine ⟨?_, (r.sep id o b h hb).2⟩
       rintro (h1 | h1)
       · exact (r.sep id o b h hb).1 h1
       · exact hne (r.inj id d o _ b h hf hb h1)
   · intro id id' o o' b h h' hb hb'
     rw [fnd_del] at h h'
     split at h
     · cases h
     · split at h'
       · cases h'
       · exact r.inj id id' o o' b h h' hb hb'
   · rintro b (h | h)
     · exact r.okb b h
     · exact (r.sep d _ b hf h).2.2
   · intro id off hu T t' y hf'
     rw [fndR_map _ rfl] at hu ⊢
     rw [fnd_del] at hf'
     split at hf'
     · cases hf'
     · have hu' : fndR id off st.rf ≠ .un := fun e => hu (by rw [e]; rfl)
       obtain ⟨b, v, e1, hc, hr⟩ := r.rfs id off hu' T t' y hf'
       exact ⟨b, v, e1, hc, RepA0.melt_ hf ho hr⟩
 · rename_i T t x hf
   have ho := r.ob d _ hf
   refine ⟨fun b => ok b ∨ blk (m d) = some b, ⟨fun b h => .inl h, fun b h => h.imp id (fun h => (r.sep d _ b hf h).2.1), fun _ _ b h => .inr h, ?_, ?_⟩, ⟨r.defersOr hf, by simp [r.size], ?_, ?_, ?_, ?_, ?_, r.keep, fun id v hq => ⟨(r.pins id v hq).1, fun o2 ho => (r.pins id v hq).2 _ (fnd_del_some ho)⟩, ?_⟩⟩
   · intro id o h
     exact fnd_del_some h
   · intro id h
     rw [fnd_del, if_neg h]
   · intro i
     show RepA w _ m (del d st.hp) (fndE i (mapE (AV.meltB d t x) st.env)) _
     rw [fndE_map _ rfl]
     exact RepA.meltB_ hf ho (r.env i)
   · intro id o h
     have := r.ob id o (fnd_del_some h)
     cases o with
     | box T t x => obtain ⟨b, cells, e, hb, hr⟩ := this; exact ⟨b, cells, e, hb, hr.move (fun _ _ => rfl) (fun b h => .inl h)⟩
     | row e t x => obtain ⟨inner, ho, hr⟩ := this; exact ⟨inner, ho, RepL.imp (fun x c h => h.move (fun _ _ => rfl) (fun b h => .inl h)) hr⟩
   · intro id o b h hb
     have h' : fnd id (del d st.hp) = some o := h
     rw [fnd_del] at h'
     split at h'
     · cases h'
     · rename_i hne
       refine ⟨?_, (r.sep id o b h' hb).2⟩
       rintro (h1 | h1)
       · exact (r.sep id o b h' hb).1 h1
       · exact hne (r.inj id d o _ b h' hf hb h1)
   · intro id id' o o' b h h' hb hb'
     exact r.inj id id' o o' b (fnd_del_some h) (fnd_del_some h') hb hb'
   · rintro b (h | h)
     · exact r.okb b h
     · exact (r.sep d _ b hf h).2.2
   · intro id off hu T' t' y hf'
     have hu2 : fndR id off (mapR (AV0.meltB d t x) (offR d st.rf)) ≠ .un := hu
     have hf2 : fnd id (del d st.hp) = some (.box T' t' y) := hf'
     show ∃ b v, m id = _ ∧ _ ∧ RepA0 w _ m (del d st.hp) (fndR id off (mapR (AV0.meltB d t x) (offR d st.rf))) v
     rw [fndR_map _ rfl, fndR_off] at hu2 ⊢
     rw [fnd_del] at hf2
     split at hf2
     · cases hf2
     · rename_i hne
       rw [if_neg hne] at hu2 ⊢
       have hu' : fndR id off st.rf ≠ .un := fun e => hu2 (by rw [e]; rfl)
       obtain ⟨b, v, e1, hc, hr⟩ := r.rfs id off hu' T' t' y hf2
       exact ⟨b, v, e1, hc, RepA0.meltB_ hf ho hr⟩
 · rename_i hno hnb
   exact ⟨ok, ⟨fun _ h => h, fun _ h => .inl h, fun o h => by cases o with | row e t xs => exact absurd h (hno e t xs) | box T t x => exact absurd h (hnb T t x), fun _ _ h => h, fun _ _ => rfl⟩, r⟩
theorem Rel.freezes : ∀ (l : List Nat) {ok : Nat → Prop} {st : St}, Rel w0 m ok st a w → ∃ ok', ((∀ b, ok b → ok' b) ∧ (∀ b, ok' b → ok b ∨ w0.fr b) ∧ (∀ d, d ∈ l → ∀ o, fnd d st.hp = some o → ∀ b, blk (m d) = some b → ok' b) ∧ (∀ id o, fnd id (freezes st l).hp = some o → fnd id st.hp = some o)) ∧ Rel w0 m ok' (freezes st l) a w
 | [], ok, _, r => ⟨ok, ⟨fun _ h => h, fun _ h => .inl h, fun _ h => by simp at h, fun _ _ h => h⟩, r⟩
 | d :: l, _, st, r => by
  obtain ⟨ok1, ⟨h1, h2, h3, h4, h5⟩, r1⟩ := r.freeze d
  obtain ⟨ok2, ⟨k1, k2, k3, k4⟩, r2⟩ := Rel.freezes l r1
  refine ⟨ok2, ⟨fun b h => k1 b (h1 b h), fun b h => (k2 b h).elim (h2 b) .inr, ?_, fun id o h => h4 id o (k4 id o h)⟩, r2⟩
  intro d' hd o hf b hb
  by_cases e' : d' = d
  · subst e'; exact k1 b (h3 o hf b hb)
  · rcases List.mem_cons.1 hd with h | h
    · exact absurd h e'
    · exact k3 d' h o (by rw [h5 d' e']; exact hf) b hb
theorem RepA0.ren_ {id : Nat} (hne : id ≠ d) {o : Ob} : ∀ {x : AV0} {v : Value}, fnd id hp = some o → RepA0 w ok m hp x v → RepA0 w ok (fun i => if i = d then m id else m i) (ins d o (del id hp)) ((x.kill d).ren id d) v
 | .tv _ _, _, _, h => h
 | .rptr _ _, _, _, h => h
 | .fn _, _, _, h => h
 | .own _ _ _, _, _, _ => trivial
 | .un, _, _, _ => trivial
 | .nilp, _, _, h => h
 | .str t x rs, v, hf, h => by
  simp only [AV0.kill]
  cases e : cAny d rs with
  | true => exact True.intro
  | false =>
   simp only [cond_false, AV0.ren]
   cases e' : cAny id rs with
   | true => exact True.intro
   | false =>
    obtain ⟨cs, h1, h2, h3⟩ := h
    refine ⟨cs, h1, h2, fun p hpp => ?_⟩
    obtain ⟨u, hu, hr⟩ := h3 p hpp
    refine ⟨u, hu, RepR.kill_ (d := id) (m := fun i => if i = d then m id else m i) (hp := ins d o hp) (fun _ _ => rfl) (fun i hi => ?_) (cAny_no e' p hpp) (RepR.kill_ (m := m) (d := d) (hp := hp) (fun i hi => by simp [hi]) (fun i hi => by rw [fnd_ins, if_neg hi]) (cAny_no e p hpp) hr)⟩
    rw [fnd_ins, fnd_ins, fnd_del]
    by_cases h4 : i = d
    · simp [h4]
    · simp [h4, hi]
 | .sub i lo n, v, hf, h => by
  simp only [AV0.kill, nbeq]
  by_cases e : i = d
  · simp [e, RepA0, AV0.ren]
  · simp only [e, decide_false, cond_false, AV0.ren, nbeq]
    by_cases e' : i = id
    · subst e'
      simp only [decide_true, cond_true, RepA0, fnd_ins, if_true]
      rintro e1 t xs ⟨⟩
      exact h _ _ _ hf
    · simp only [e', decide_false, cond_false, RepA0, fnd_ins, fnd_del, if_neg e, if_neg e']
      exact h
 | .bel i _ _ _ _ _, v, hf, h => by
  simp only [AV0.kill, nbeq]
  by_cases e : i = d
  · simp [e, RepA0, AV0.ren]
  · simp only [e, decide_false, cond_false, AV0.ren, nbeq]
    by_cases e' : i = id
    · subst e'
      simp only [decide_true, cond_true, RepA0, fnd_ins, if_true]
      rintro e1 t xs ⟨⟩
      exact h _ _ _ hf
    · simp only [e', decide_false, cond_false, RepA0, fnd_ins, fnd_del, if_neg e, if_neg e']
      exact h
 | .wbx i _ _ _ _, v, hf, h => by
  simp only [AV0.kill, nbeq]
  by_cases e : i = d
  · simp [e, RepA0, AV0.ren]
  · simp only [e, decide_false, cond_false, AV0.ren, nbeq]
    by_cases e' : i = id
    · subst e'
      simp only [decide_true, cond_true, RepA0, fnd_ins, if_true]
      rintro e1 t xs ⟨⟩
      exact h _ _ _ hf
    · simp only [e', decide_false, cond_false, RepA0, fnd_ins, fnd_del, if_neg e, if_neg e']
      exact h
 | .clo _ _ _, _, _, h => h
 | .glb _, _, _, h => h
 | .gel _ _, _, _, h => h
 | .row i, v, hf, h => by
  simp only [AV0.kill, nbeq]
  by_cases e : i = d
  · simp [e, RepA0, AV0.ren]
  · simp only [e, decide_false, cond_false, AV0.ren, nbeq]
    by_cases e' : i = id
    · subst e'
      simp only [decide_true, cond_true, RepA0, fnd_ins, if_true]
      rintro e1 t xs ⟨⟩
      exact h _ _ _ hf
    · simp only [e', decide_false, cond_false, RepA0, fnd_ins, fnd_del, if_neg e, if_neg e']
      exact h
 | .ptr i off, v, hf, h => by
  simp only [AV0.kill, nbeq]
  by_cases e : i = d
  · simp [e, RepA0, AV0.ren]
  · simp only [e, decide_false, cond_false, AV0.ren, nbeq]
    by_cases e' : i = id
    · subst e'
      simp only [decide_true, cond_true, RepA0, fnd_ins, if_true]
      rintro e1 t xs ⟨⟩
      exact h _ _ _ hf
    · simp only [e', decide_false, cond_false, RepA0, fnd_ins, fnd_del, if_neg e, if_neg e']
      exact h
 | .elt i j off, v, hf, h => by
  simp only [AV0.kill, nbeq]
  by_cases e : i = d
  · simp [e, RepA0, AV0.ren]
  · simp only [e, decide_false, cond_false, AV0.ren, nbeq]
    by_cases e' : i = id
    · subst e'
      simp only [decide_true, cond_true, RepA0, fnd_ins, if_true]
      rintro e1 t xs ⟨⟩
      exact h _ _ _ hf
    · simp only [e', decide_false, cond_false, RepA0, fnd_ins, fnd_del, if_neg e, if_neg e']
      exact h
theorem RepA.ren_ {id : Nat} (hne : id ≠ d) {o : Ob} (hf : fnd id hp = some o) : ∀ {x : AV} {v : Value}, RepA w ok m hp x v → RepA w ok (fun i => if i = d then m id else m i) (ins d o (del id hp)) ((x.kill d).ren id d) v
 | .v _, _, h => RepA0.ren_ hne hf h
 | .tup l, v, h => by
  have := RepA.map (f := fun x => (x.kill d).ren id d) (fun {x v} h => RepA0.ren_ hne hf h) h
  simpa [AV.kill, AV.ren, List.map_map, Function.comp_def] using this
theorem Rel.ren0 (r : Rel w0 m ok st a w) {id : Nat} (hne : id ≠ d) {o : Ob} (hf : fnd id st.hp = some o) (hd : ∀ v, w0.pin d ≠ some v) : Rel w0 (fun i => if i = d then m id else m i) ok (st.ren0 id d) a w := by
 unfold St.ren0
 rw [hf]
 have key : ∀ {i o'}, fnd i (ins d o (del id st.hp)) = some o' → (i = d ∧ o' = o) ∨ (i ≠ d ∧ i ≠ id ∧ fnd i st.hp = some o') := by
  intro i o' h
  rw [fnd_ins] at h
  by_cases e : i = d
  · simp [e] at h; exact .inl ⟨e, h.symm⟩
  · rw [if_neg e, fnd_del] at h
    by_cases e' : i = id
    · simp [e'] at h
    · rw [if_neg e'] at h; exact .inr ⟨e, e', h⟩
 refine ⟨r.defers, by simp [r.size], ?_, ?_, ?_, ?_, r.okb, r.keep, fun i q hq => ⟨(r.pins i q hq).1, fun o2 ho2 => ?_⟩, ?_⟩
 · intro i
   show RepA w ok _ (ins d o (del id st.hp)) (fndE i (mapE (AV.ren id d) (mapE (AV.kill d) st.env))) _
   rw [fndE_map _ rfl, fndE_map _ rfl]
   exact RepA.ren_ hne hf (r.env i)
 · intro i o' h
   rcases key h with ⟨rfl, rfl⟩ | ⟨h1, h2, h3⟩
   · simpa using r.ob id _ hf
   · simpa [h1] using r.ob i _ h3
 · intro i o' b h hb
   rcases key h with ⟨rfl, rfl⟩ | ⟨h1, h2, h3⟩
   · simp at hb; exact r.sep id _ b hf hb
   · simp [h1] at hb; exact r.sep i _ b h3 hb
 · intro i i' o1 o2 b h h' hb hb'
   rcases key h with ⟨rfl, rfl⟩ | ⟨h1, h2, h3⟩
   · rcases key h' with ⟨rfl, rfl⟩ | ⟨h1', h2', h3'⟩
     · rfl
     · simp at hb; simp [h1'] at hb'; exact absurd (r.inj _ _ _ _ b h3' hf hb' hb) h2'
   · rcases key h' with ⟨rfl, rfl⟩ | ⟨h1', h2', h3'⟩
     · simp at hb'; simp [h1] at hb; exact absurd (r.inj _ _ _ _ b h3 hf hb hb') h2
     · simp [h1] at hb; simp [h1'] at hb'; exact r.inj _ _ _ _ b h3 h3' hb hb'
 · have hne2 : i ≠ d := fun e => hd q (e ▸ hq)
   rcases key ho2 with ⟨e, _⟩ | ⟨_, _, h3⟩
   · exact (hne2 e).elim
   · simp only [if_neg hne2]; exact (r.pins i q hq).2 _ h3
 · intro i off hu T t x hf'
   rw [fndR_map _ rfl, fndR_map _ rfl, fndR_key id d i off hne _ (offR_ne d _), fndR_off, fndR_off, if_neg hne] at hu ⊢
   rcases key hf' with ⟨rfl, e⟩ | ⟨h1, h2, h3⟩
   · rw [if_pos rfl] at hu
     simp only [if_true]
     have hu' : fndR id off st.rf ≠ .un := fun e => hu (by rw [e]; rfl)
     obtain ⟨b, v, e1, hc, hr⟩ := r.rfs id off hu' T t x (by rw [hf, e])
     exact ⟨b, v, e1, hc, RepA0.ren_ hne hf hr⟩
   · rw [if_neg h1, if_neg h2, if_neg h1] at hu
     simp only [if_neg h1, if_neg h2]
     have hu' : fndR i off st.rf ≠ .un := fun e => hu (by rw [e]; rfl)
     obtain ⟨b, v, e1, hc, hr⟩ := r.rfs i off hu' T t x h3
     exact ⟨b, v, e1, hc, RepA0.ren_ hne hf hr⟩
end
end Go.Iv
