/- How the relation is kept: new objects, objects that are only read from now on, objects' names; parts of values. -/
import Derived.Test.YtdniiaomhojlhaaIv3
namespace Go.Iv
open Go.RowKit
set_option linter.unusedVariables false
set_option linter.unusedSimpArgs false

theorem cast?_some {t t' : Ty} {x : t.D} {y : t'.D} (h : cast? t t' x = some y) : ∃ e : t = t', y = e ▸ x := by
  unfold cast? at h
  split at h
  · rename_i e; exact ⟨e, by cases h; rfl⟩
  · cases h

theorem cast?_rep {w : World} {ok : Nat → Prop} {t t' : Ty} {x : t.D} {y : t'.D} {cs : List Value} (h : cast? t t' x = some y) (r : Rep w ok t x cs) : Rep w ok t' y cs := by
  obtain ⟨rfl, rfl⟩ := cast?_some h
  exact r

theorem at0_some {t t' : Ty} {x : t.D} {off : Nat} {y : t'.D} (h : at0 t t' x off = some y) : off = 0 ∧ cast? t t' x = some y := by
  cases off with
  | zero => exact ⟨rfl, h⟩
  | succ n => cases h

theorem at0_get {w : World} {ok : Nat → Prop} {t t' : Ty} {x : t.D} {off : Nat} {y : t'.D} {cs : List Value} (h : at0 t t' x off = some y) (r : Rep w ok t x cs) : ∃ c d e, cs = c ++ d ++ e ∧ c.length = off ∧ Rep w ok t' y d := by
  obtain ⟨rfl, hc⟩ := at0_some h
  exact ⟨[], cs, [], by simp, rfl, cast?_rep hc r⟩

theorem at0_set {w : World} {ok : Nat → Prop} {t t' : Ty} {x x' : t.D} {off : Nat} {y : t'.D} {cs d' : List Value} (h : at0 t' t y off = some x') (r : Rep w ok t x cs) (r' : Rep w ok t' y d') : ∃ c d e, cs = c ++ d ++ e ∧ c.length = off ∧ d.length = d'.length ∧ Rep w ok t x' (c ++ d' ++ e) := by
  obtain ⟨rfl, hc⟩ := at0_some h
  have rz := cast?_rep hc r'
  exact ⟨[], cs, [], by simp, rfl, by rw [r.len, rz.len], by simpa using rz⟩

theorem getAt_rep {w : World} {ok : Nat → Prop} : ∀ {t t' : Ty} {x : t.D} {y : t'.D} {off : Nat} {cs : List Value}, getAt t x off t' = some y → Rep w ok t x cs →
    ∃ c d e, cs = c ++ d ++ e ∧ c.length = off ∧ Rep w ok t' y d := by
  intro t
  induction t with
  | pair a b iha ihb =>
    intro t' x y off cs h r
    obtain ⟨x1, x2⟩ := x
    unfold getAt at h
    split at h
    · rename_i z hc
      cases h
      exact at0_get hc r
    · obtain ⟨c1, c2, rfl, r1, r2⟩ := r
      simp only [nblt] at h
      by_cases hlt : off < a.size
      · simp only [hlt, decide_true, cond_true] at h
        obtain ⟨c, d, e, rfl, hl, rr⟩ := iha h r1
        exact ⟨c, d, e ++ c2, by simp, hl, rr⟩
      · simp only [hlt, decide_false, cond_false] at h
        obtain ⟨c, d, e, rfl, hl, rr⟩ := ihb h r2
        refine ⟨c1 ++ c, d, e, by simp, ?_, rr⟩
        rw [List.length_append, r1.len, hl]; omega
  | _ =>
    intro t' x y off cs h r
    unfold getAt at h
    exact at0_get h r

theorem setAt_rep {w : World} {ok : Nat → Prop} : ∀ {t t' : Ty} {x x' : t.D} {y : t'.D} {off : Nat} {cs d' : List Value}, setAt t x off t' y = some x' → Rep w ok t x cs → Rep w ok t' y d' →
    ∃ c d e, cs = c ++ d ++ e ∧ c.length = off ∧ d.length = d'.length ∧ Rep w ok t x' (c ++ d' ++ e) := by
  intro t
  induction t with
  | pair a b iha ihb =>
    intro t' x x' y off cs d' h r r'
    obtain ⟨x1, x2⟩ := x
    unfold setAt at h
    split at h
    · rename_i z hc
      cases h
      exact at0_set hc r r'
    · obtain ⟨c1, c2, rfl, r1, r2⟩ := r
      simp only [nblt] at h
      by_cases hlt : off < a.size
      · simp only [hlt, decide_true, cond_true] at h
        cases h1 : setAt a x1 off t' y with
        | none => rw [h1] at h; simp at h
        | some z =>
          rw [h1] at h; simp at h; subst h
          obtain ⟨c, d, e, rfl, hl, hd, rr⟩ := iha h1 r1 r'
          exact ⟨c, d, e ++ c2, by simp, hl, hd, _, c2, by simp, rr, r2⟩
      · simp only [hlt, decide_false, cond_false] at h
        cases h1 : setAt b x2 (off - a.size) t' y with
        | none => rw [h1] at h; simp at h
        | some z =>
          rw [h1] at h; simp at h; subst h
          obtain ⟨c, d, e, rfl, hl, hd, rr⟩ := ihb h1 r2 r'
          refine ⟨c1 ++ c, d, e, by simp, ?_, hd, c1, _, by simp, r1, rr⟩
          rw [List.length_append, r1.len, hl]; omega
  | _ =>
    intro t' x x' y off cs d' h r r'
    unfold setAt at h
    exact at0_set h r r'

section
variable {w0 w w' : World} {m m' : Nat → Value} {ok ok' : Nat → Prop} {st : St} {a : Act} {hp hp' : List (Nat × Ob)} {d : Nat}

theorem RepA0.kill_ (hm : ∀ id, id ≠ d → m' id = m id) (hf : ∀ id, id ≠ d → fnd id hp' = fnd id hp) : ∀ {x : AV0} {v : Value}, RepA0 w ok m hp x v → RepA0 w ok m' hp' (x.kill d) v
  | .tv _ _, _, h => h
  | .rptr _ _, _, h => h
  | .fn _, _, h => h
  | .own _ _ _, _, _ => trivial
  | .un, _, _ => trivial
  | .row id, v, h => by
    simp only [AV0.kill, nbeq]
    by_cases e : id = d
    · simp [e, RepA0]
    · simp only [e, decide_false, cond_false, RepA0, hm _ e, hf _ e]; exact h
  | .ptr id _, v, h => by
    simp only [AV0.kill, nbeq]
    by_cases e : id = d
    · simp [e, RepA0]
    · simp only [e, decide_false, cond_false, RepA0, hm _ e, hf _ e]; exact h
  | .elt id _ _, v, h => by
    simp only [AV0.kill, nbeq]
    by_cases e : id = d
    · simp [e, RepA0]
    · simp only [e, decide_false, cond_false, RepA0, hm _ e, hf _ e]; exact h

theorem RepA.map {f : AV0 → AV0} (hf : ∀ {x : AV0} {v : Value}, RepA0 w ok m hp x v → RepA0 w ok' m' hp' (f x) v) {l : List AV0} {v : Value} (h : RepA w ok m hp (.tup l) v) : RepA w ok' m' hp' (.tup (l.map f)) v := by
  obtain ⟨us, e, hl, h⟩ := h
  refine ⟨us, e, by simp [hl], fun i x hx => ?_⟩
  rw [List.getElem?_map] at hx
  cases hy : l[i]? with
  | none => rw [hy] at hx; simp at hx
  | some y => rw [hy] at hx; simp at hx; subst hx; obtain ⟨u, hu, hr⟩ := h i y hy; exact ⟨u, hu, hf hr⟩

theorem RepA.kill_ (hm : ∀ id, id ≠ d → m' id = m id) (hf : ∀ id, id ≠ d → fnd id hp' = fnd id hp) : ∀ {x : AV} {v : Value}, RepA w ok m hp x v → RepA w ok m' hp' (x.kill d) v
  | .v _, _, h => RepA0.kill_ hm hf h
  | .tup _, _, h => RepA.map (RepA0.kill_ hm hf) h

/-- A new object, in a slot that is its name. -/
theorem Rel.mk_ (r : Rel w0 m ok st a w) (d : Nat) (o : Ob) (x : AV0) (u v : Value) (ho : RepO w ok o u) (hx : RepA0 w ok (fun i => if i = d then u else m i) (ins d o st.hp) x v)
    (hs : ∀ b, blk u = some b → ¬ ok b ∧ w0.heap.size ≤ b ∧ b < w.heap.size) (hi : ∀ b id o', id ≠ d → fnd id st.hp = some o' → blk u = some b → blk (m id) ≠ some b) :
    Rel w0 (fun i => if i = d then u else m i) ok (st.mk_ d o x) (a.put (some d) v) w := by
  refine ⟨r.defers, by simp [St.mk_, Act.put, r.size], ?_, ?_, ?_, ?_, r.okb, r.keep⟩
  · intro i
    show RepA w ok _ (ins d o st.hp) (fndE i (setE st.n d (.v x) (mapE (AV.kill d) st.env))) ((a.tmps.setIfInBounds d v).getD i undef)
    rw [fndE_set, getD_setIfInBounds, r.size]
    split
    · exact hx
    · rw [fndE_map (AV.kill d) rfl]
      exact RepA.kill_ (fun id h => by simp [h]) (fun id h => by rw [fnd_ins]; simp [h]) (r.env i)
  · intro id o' ho'
    simp only [St.mk_, fnd_ins] at ho'
    by_cases e : id = d
    · simp [e] at ho'; subst ho'; simpa [e] using ho
    · simp [e] at ho'; simpa [e] using r.ob id o' ho'
  · intro id o' b ho' hb
    simp only [St.mk_, fnd_ins] at ho'
    by_cases e : id = d
    · simp [e] at hb; exact hs b hb
    · simp [e] at ho' hb; exact r.sep id o' b ho' hb
  · intro id id' o1 o2 b h1 h2 hb1 hb2
    simp only [St.mk_, fnd_ins] at h1 h2
    by_cases e : id = d
    · by_cases e' : id' = d
      · rw [e, e']
      · simp [e] at hb1; simp [e'] at h2 hb2; exact absurd hb2 (hi b id' o2 e' h2 hb1)
    · by_cases e' : id' = d
      · simp [e'] at hb2; simp [e] at h1 hb1; exact absurd hb1 (hi b id o1 e h1 hb2)
      · simp [e, e'] at h1 h2 hb1 hb2; exact r.inj id id' o1 o2 b h1 h2 hb1 hb2

theorem Rel.mkT_ (r : Rel w0 m ok st a w) (d : Nat) (o : Ob) (x : List AV0) (u v : Value) (ho : RepO w ok o u) (hx : RepA w ok (fun i => if i = d then u else m i) (ins d o st.hp) (.tup x) v)
    (hs : ∀ b, blk u = some b → ¬ ok b ∧ w0.heap.size ≤ b ∧ b < w.heap.size) (hi : ∀ b id o', id ≠ d → fnd id st.hp = some o' → blk u = some b → blk (m id) ≠ some b) :
    Rel w0 (fun i => if i = d then u else m i) ok (st.mkT_ d o x) (a.put (some d) v) w := by
  refine ⟨r.defers, by simp [St.mkT_, Act.put, r.size], ?_, ?_, ?_, ?_, r.okb, r.keep⟩
  · intro i
    show RepA w ok _ (ins d o st.hp) (fndE i (setE st.n d (.tup x) (mapE (AV.kill d) st.env))) ((a.tmps.setIfInBounds d v).getD i undef)
    rw [fndE_set, getD_setIfInBounds, r.size]
    split
    · exact hx
    · rw [fndE_map (AV.kill d) rfl]
      exact RepA.kill_ (fun id h => by simp [h]) (fun id h => by rw [fnd_ins]; simp [h]) (r.env i)
  · intro id o' ho'
    simp only [St.mkT_, fnd_ins] at ho'
    by_cases e : id = d
    · simp [e] at ho'; subst ho'; simpa [e] using ho
    · simp [e] at ho'; simpa [e] using r.ob id o' ho'
  · intro id o' b ho' hb
    simp only [St.mkT_, fnd_ins] at ho'
    by_cases e : id = d
    · simp [e] at hb; exact hs b hb
    · simp [e] at ho' hb; exact r.sep id o' b ho' hb
  · intro id id' o1 o2 b h1 h2 hb1 hb2
    simp only [St.mkT_, fnd_ins] at h1 h2
    by_cases e : id = d
    · by_cases e' : id' = d
      · rw [e, e']
      · simp [e] at hb1; simp [e'] at h2 hb2; exact absurd hb2 (hi b id' o2 e' h2 hb1)
    · by_cases e' : id' = d
      · simp [e'] at hb2; simp [e] at h1 hb1; exact absurd hb1 (hi b id o1 e h1 hb2)
      · simp [e, e'] at h1 h2 hb1 hb2; exact r.inj id id' o1 o2 b h1 h2 hb1 hb2

theorem RepA0.del_ : ∀ {x : AV0} {v : Value}, RepA0 w ok m hp x v → RepA0 w ok m (del d hp) x v
  | .tv _ _, _, h => h
  | .rptr _ _, _, h => h
  | .fn _, _, h => h
  | .own _ _ _, _, _ => trivial
  | .un, _, _ => trivial
  | .row id, v, h => fun e t xs hf => by rw [fnd_del] at hf; split at hf; · cases hf
                                         · exact h e t xs hf
  | .ptr id _, v, h => fun e t xs hf => by rw [fnd_del] at hf; split at hf; · cases hf
                                           · exact h e t xs hf
  | .elt id _ _, v, h => fun e t xs hf => by rw [fnd_del] at hf; split at hf; · cases hf
                                             · exact h e t xs hf
theorem RepA.del_ : ∀ {x : AV} {v : Value}, RepA w ok m hp x v → RepA w ok m (del d hp) x v
  | .v _, _, h => RepA0.del_ h
  | .tup l, v, ⟨us, e, hl, h⟩ => ⟨us, e, hl, fun i a ha => let ⟨u, hu, hr⟩ := h i a ha; ⟨u, hu, RepA0.del_ hr⟩⟩

/-- An object is forgotten. -/
theorem Rel.del_ (r : Rel w0 m ok st a w) (d : Nat) : Rel w0 m ok { st with hp := del d st.hp } a w := by
  have key : ∀ {id o}, fnd id (del d st.hp) = some o → fnd id st.hp = some o := by
    intro id o h; rw [fnd_del] at h; split at h; · cases h
    · exact h
  exact ⟨r.defers, r.size, fun i => (r.env i).del_, fun id o h => r.ob id o (key h), fun id o b h => r.sep id o b (key h), fun id id' o o' b h h' => r.inj id id' o o' b (key h) (key h'), r.okb, r.keep⟩

theorem RepA0.ok_ (hok : ∀ b, ok b → ok' b) {x : AV0} {v : Value} (h : RepA0 w ok m hp x v) : RepA0 w ok' m hp x v := RepA0.mono (fun _ _ => rfl) hok h

/-- What a row of the call's own is, when it is only read. -/
theorem row_reads {e : TypeId} {t : Ty} {xs : List t.D} {u : Value} (ho : RepO w ok (.row e t xs) u) : RepV w (fun b => ok b ∨ blk u = some b) (.sl e t) xs u := by
  obtain ⟨inner, hown, hr⟩ := ho
  have hr' := RepL.imp (fun x c (h : Rep w ok t x c) => h.move (fun _ _ => rfl) (ok' := fun b => ok b ∨ blk u = some b) (fun b hb => .inl hb)) hr
  rcases hown.2 with ⟨rfl, hn⟩ | ⟨g, cap, cur, rfl, hb, hg, hle, hcap, hsz, htake⟩
  · have : xs = [] := by simpa using hn
    subst this
    exact ⟨_, ⟨none, 0, [], rfl, Nat.le_refl _, .inl rfl, rfl⟩, by simp [Ty.isAgg]⟩
  · refine ⟨_, ⟨some ⟨g, 0, none⟩, cap, inner, rfl, hle, .inr ⟨_, rfl, .inr rfl, fun j v hj => ?_⟩, hr'⟩, by simp [Ty.isAgg]⟩
    exact World.ownsRow.cells (g := g) hown rfl j v hj

theorem RepA0.melt_ {e : TypeId} {t : Ty} {xs : List t.D} (hf : fnd d hp = some (.row e t xs)) (ho : RepO w ok (.row e t xs) (m d)) : ∀ {x : AV0} {v : Value}, RepA0 w ok m hp x v → RepA0 w (fun b => ok b ∨ blk (m d) = some b) m (del d hp) (x.melt d e t xs) v
  | .tv _ _, _, h => RepA0.ok_ (fun b hb => .inl hb) h
  | .rptr t' x', v, h => RepA0.ok_ (ok := ok) (ok' := fun b => ok b ∨ blk (m d) = some b) (m := m) (hp := hp) (x := .rptr t' x') (fun b hb => Or.inl hb) h
  | .fn _, _, h => h
  | .own _ _ _, _, _ => trivial
  | .un, _, _ => trivial
  | .ptr id off, v, h => RepA0.del_ (ok := _) (x := .ptr id off) h
  | .elt id i off, v, h => RepA0.del_ (x := .elt id i off) h
  | .row id, v, h => by
    simp only [AV0.melt, nbeq]
    by_cases he : id = d
    · subst he
      have : v = m id := h _ _ _ hf
      subst this
      simp only [decide_true, cond_true]
      exact row_reads ho
    · simp only [he, decide_false, cond_false]
      exact RepA0.del_ (x := .row id) h

theorem RepA.melt_ {e : TypeId} {t : Ty} {xs : List t.D} (hf : fnd d hp = some (.row e t xs)) (ho : RepO w ok (.row e t xs) (m d)) : ∀ {x : AV} {v : Value}, RepA w ok m hp x v → RepA w (fun b => ok b ∨ blk (m d) = some b) m (del d hp) (x.melt d e t xs) v
  | .v _, _, h => RepA0.melt_ hf ho h
  | .tup _, _, h => RepA.map (RepA0.melt_ hf ho) h

/-- A row of the call's own is only read from now on. -/
theorem Rel.freeze (r : Rel w0 m ok st a w) (d : Nat) : ∃ ok', ((∀ b, ok b → ok' b) ∧ (∀ b, ok' b → ok b ∨ w0.heap.size ≤ b) ∧ (∀ e t xs, fnd d st.hp = some (.row e t xs) → ∀ b, blk (m d) = some b → ok' b) ∧ (∀ id o, fnd id (st.freeze d).hp = some o → fnd id st.hp = some o) ∧ (∀ id, id ≠ d → fnd id (st.freeze d).hp = fnd id st.hp)) ∧ Rel w0 m ok' (st.freeze d) a w := by
  unfold St.freeze
  split
  · rename_i e t xs hf
    have ho := r.ob d _ hf
    refine ⟨fun b => ok b ∨ blk (m d) = some b, ⟨fun b h => .inl h, fun b h => h.imp id (fun h => (r.sep d _ b hf h).2.1), fun _ _ _ _ b h => .inr h, ?_, ?_⟩, ⟨r.defers, by simp [r.size], ?_, ?_, ?_, ?_, ?_, r.keep⟩⟩
    · intro id o h
      rw [fnd_del] at h
      split at h
      · cases h
      · exact h
    · intro id h
      rw [fnd_del, if_neg h]
    · intro i
      show RepA w _ m (del d st.hp) (fndE i (mapE (AV.melt d e t xs) st.env)) _
      rw [fndE_map _ rfl]
      exact RepA.melt_ hf ho (r.env i)
    · intro id o h
      rw [fnd_del] at h
      split at h
      · cases h
      · have := r.ob id o h
        cases o with
        | box T t x => obtain ⟨b, cells, e, hb, hr⟩ := this; exact ⟨b, cells, e, hb, hr.move (fun _ _ => rfl) (fun b h => .inl h)⟩
        | row e t x => obtain ⟨inner, ho, hr⟩ := this; exact ⟨inner, ho, RepL.imp (fun x c h => h.move (fun _ _ => rfl) (fun b h => .inl h)) hr⟩
    · intro id o b h hb
      rw [fnd_del] at h
      split at h
      · cases h
      · rename_i hne
        refine ⟨?_, (r.sep id o b h hb).2⟩
        rintro (h1 | h1)
        · exact (r.sep id o b h hb).1 h1
        · exact hne (r.inj id d o _ b h hf hb h1)
    · intro id id' o o' b h h' hb hb'
      rw [fnd_del] at h h'
      split at h
      · cases h
      · split at h'
        · cases h'
        · exact r.inj id id' o o' b h h' hb hb'
    · rintro b (h | h)
      · exact r.okb b h
      · exact (r.sep d _ b hf h).2.2
  · rename_i hno
    exact ⟨ok, ⟨fun _ h => h, fun _ h => .inl h, fun e t xs h => absurd h (hno e t xs), fun _ _ h => h, fun _ _ => rfl⟩, r⟩

theorem Rel.freezes : ∀ (l : List Nat) {ok : Nat → Prop} {st : St}, Rel w0 m ok st a w → ∃ ok', ((∀ b, ok b → ok' b) ∧ (∀ b, ok' b → ok b ∨ w0.heap.size ≤ b) ∧ (∀ d, d ∈ l → ∀ e t xs, fnd d st.hp = some (.row e t xs) → ∀ b, blk (m d) = some b → ok' b) ∧ (∀ id o, fnd id (freezes st l).hp = some o → fnd id st.hp = some o)) ∧ Rel w0 m ok' (freezes st l) a w
  | [], ok, _, r => ⟨ok, ⟨fun _ h => h, fun _ h => .inl h, fun _ h => by simp at h, fun _ _ h => h⟩, r⟩
  | d :: l, _, st, r => by
    obtain ⟨ok1, ⟨h1, h2, h3, h4, h5⟩, r1⟩ := r.freeze d
    obtain ⟨ok2, ⟨k1, k2, k3, k4⟩, r2⟩ := Rel.freezes l r1
    refine ⟨ok2, ⟨fun b h => k1 b (h1 b h), fun b h => (k2 b h).elim (h2 b) .inr, ?_, fun id o h => h4 id o (k4 id o h)⟩, r2⟩
    intro d' hd e t xs hf b hb
    by_cases e' : d' = d
    · subst e'; exact k1 b (h3 e t xs hf b hb)
    · rcases List.mem_cons.1 hd with h | h
      · exact absurd h e'
      · exact k3 d' h e t xs (by rw [h5 d' e']; exact hf) b hb

theorem RepA0.ren_ {id : Nat} (hne : id ≠ d) {o : Ob} : ∀ {x : AV0} {v : Value}, fnd id hp = some o → RepA0 w ok m hp x v → RepA0 w ok (fun i => if i = d then m id else m i) (ins d o (del id hp)) ((x.kill d).ren id d) v
  | .tv _ _, _, _, h => h
  | .rptr _ _, _, _, h => h
  | .fn _, _, _, h => h
  | .own _ _ _, _, _, _ => trivial
  | .un, _, _, _ => trivial
  | .row i, v, hf, h => by
    simp only [AV0.kill, nbeq]
    by_cases e : i = d
    · simp [e, RepA0, AV0.ren]
    · simp only [e, decide_false, cond_false, AV0.ren, nbeq]
      by_cases e' : i = id
      · subst e'
        simp only [decide_true, cond_true, RepA0, fnd_ins, if_true]
        rintro e1 t xs ⟨⟩
        exact h _ _ _ hf
      · simp only [e', decide_false, cond_false, RepA0, fnd_ins, fnd_del, if_neg e, if_neg e']
        exact h
  | .ptr i off, v, hf, h => by
    simp only [AV0.kill, nbeq]
    by_cases e : i = d
    · simp [e, RepA0, AV0.ren]
    · simp only [e, decide_false, cond_false, AV0.ren, nbeq]
      by_cases e' : i = id
      · subst e'
        simp only [decide_true, cond_true, RepA0, fnd_ins, if_true]
        rintro e1 t xs ⟨⟩
        exact h _ _ _ hf
      · simp only [e', decide_false, cond_false, RepA0, fnd_ins, fnd_del, if_neg e, if_neg e']
        exact h
  | .elt i j off, v, hf, h => by
    simp only [AV0.kill, nbeq]
    by_cases e : i = d
    · simp [e, RepA0, AV0.ren]
    · simp only [e, decide_false, cond_false, AV0.ren, nbeq]
      by_cases e' : i = id
      · subst e'
        simp only [decide_true, cond_true, RepA0, fnd_ins, if_true]
        rintro e1 t xs ⟨⟩
        exact h _ _ _ hf
      · simp only [e', decide_false, cond_false, RepA0, fnd_ins, fnd_del, if_neg e, if_neg e']
        exact h

theorem RepA.ren_ {id : Nat} (hne : id ≠ d) {o : Ob} (hf : fnd id hp = some o) : ∀ {x : AV} {v : Value}, RepA w ok m hp x v → RepA w ok (fun i => if i = d then m id else m i) (ins d o (del id hp)) ((x.kill d).ren id d) v
  | .v _, _, h => RepA0.ren_ hne hf h
  | .tup l, v, h => by
    have := RepA.map (f := fun x => (x.kill d).ren id d) (fun {x v} h => RepA0.ren_ hne hf h) h
    simpa [AV.kill, AV.ren, List.map_map, Function.comp_def] using this

/-- An object gets another name. -/
theorem Rel.ren (r : Rel w0 m ok st a w) {id : Nat} (hne : id ≠ d) {o : Ob} (hf : fnd id st.hp = some o) : Rel w0 (fun i => if i = d then m id else m i) ok (st.ren id d) a w := by
  unfold St.ren
  rw [hf]
  have key : ∀ {i o'}, fnd i (ins d o (del id st.hp)) = some o' → (i = d ∧ o' = o) ∨ (i ≠ d ∧ i ≠ id ∧ fnd i st.hp = some o') := by
    intro i o' h
    rw [fnd_ins] at h
    by_cases e : i = d
    · simp [e] at h; exact .inl ⟨e, h.symm⟩
    · rw [if_neg e, fnd_del] at h
      by_cases e' : i = id
      · simp [e'] at h
      · rw [if_neg e'] at h; exact .inr ⟨e, e', h⟩
  refine ⟨r.defers, by simp [r.size], ?_, ?_, ?_, ?_, r.okb, r.keep⟩
  · intro i
    show RepA w ok _ (ins d o (del id st.hp)) (fndE i (mapE (AV.ren id d) (mapE (AV.kill d) st.env))) _
    rw [fndE_map _ rfl, fndE_map _ rfl]
    exact RepA.ren_ hne hf (r.env i)
  · intro i o' h
    rcases key h with ⟨rfl, rfl⟩ | ⟨h1, h2, h3⟩
    · simpa using r.ob id _ hf
    · simpa [h1] using r.ob i _ h3
  · intro i o' b h hb
    rcases key h with ⟨rfl, rfl⟩ | ⟨h1, h2, h3⟩
    · simp at hb; exact r.sep id _ b hf hb
    · simp [h1] at hb; exact r.sep i _ b h3 hb
  · intro i i' o1 o2 b h h' hb hb'
    rcases key h with ⟨rfl, rfl⟩ | ⟨h1, h2, h3⟩
    · rcases key h' with ⟨rfl, rfl⟩ | ⟨h1', h2', h3'⟩
      · rfl
      · simp at hb; simp [h1'] at hb'; exact absurd (r.inj _ _ _ _ b h3' hf hb' hb) h2'
    · rcases key h' with ⟨rfl, rfl⟩ | ⟨h1', h2', h3'⟩
      · simp at hb'; simp [h1] at hb; exact absurd (r.inj _ _ _ _ b h3 hf hb hb') h2
      · simp [h1] at hb; simp [h1'] at hb'; exact r.inj _ _ _ _ b h3 h3' hb hb'
end
end Go.Iv
