/- Calls of functions with variables that come in, and go out. -/
import Derived.Test.YtcpeakceigidpaaDoorKvC
set_option linter.all false
namespace Go.Iv
open Go.RowKit
variable [GL]
theorem inL_mem {k : Nat} : ∀ {l : List Nat}, inL k l = true ↔ k ∈ l
 | [] => by simp [inL]
 | p :: r => by
  simp only [inL, nbeq, List.mem_cons]
  by_cases h : p = k
  · simp [h]
  · have h' : ¬ k = p := fun e => h e.symm
    simp [h, h', inL_mem (l := r)]
theorem distinctL_nodup : ∀ {l : List Nat}, distinctL l = true → l.Nodup
 | [], _ => List.nodup_nil
 | x :: r, h => by
  simp only [distinctL, Bool.and_eq_true, Bool.not_eq_true', Bool.eq_false_iff, ne_eq, inL_mem] at h
  exact List.nodup_cons.2 ⟨h.1, distinctL_nodup h.2⟩
theorem lkN_mem {k v : Nat} : ∀ {l : List (Nat × Nat)}, lkN k l = some v → (k, v) ∈ l
 | [], h => by cases h
 | p :: r, h => by
  simp only [lkN, nbeq] at h
  by_cases e : p.1 = k
  · simp [e] at h; subst h e; exact List.mem_cons_self ..
  · simp [e] at h; exact List.mem_cons_of_mem _ (lkN_mem h)
theorem ivN_mem {k v : Nat} : ∀ {l : List (Nat × Nat)}, ivN v l = some k → (k, v) ∈ l
 | [], h => by cases h
 | p :: r, h => by
  simp only [ivN, nbeq] at h
  by_cases e : p.2 = v
  · simp [e] at h; subst h e; exact List.mem_cons_self ..
  · simp [e] at h; exact List.mem_cons_of_mem _ (ivN_mem h)
theorem lkN_of {k v : Nat} : ∀ {l : List (Nat × Nat)}, (l.map (·.1)).Nodup → (k, v) ∈ l → lkN k l = some v
 | [], _, h => by simp at h
 | p :: r, hn, h => by
  simp only [List.map_cons, List.nodup_cons] at hn
  simp only [lkN, nbeq]
  rcases List.mem_cons.1 h with rfl | h
  · simp
  · have : p.1 ≠ k := fun e => hn.1 (List.mem_map.2 ⟨_, h, e.symm⟩)
    simp [this]; exact lkN_of hn.2 h
theorem ivN_of {k v : Nat} : ∀ {l : List (Nat × Nat)}, (l.map (·.2)).Nodup → (k, v) ∈ l → ivN v l = some k
 | [], _, h => by simp at h
 | p :: r, hn, h => by
  simp only [List.map_cons, List.nodup_cons] at hn
  simp only [ivN, nbeq]
  rcases List.mem_cons.1 h with rfl | h
  · simp
  · have : p.2 ≠ v := fun e => hn.1 (List.mem_map.2 ⟨_, h, e.symm⟩)
    simp [this]; exact ivN_of hn.2 h
theorem ivN_none {v : Nat} : ∀ {l : List (Nat × Nat)}, ivN v l = none → v ∉ l.map (·.2)
 | [], _ => by simp
 | p :: r, h => by
  simp only [ivN, nbeq] at h
  by_cases e : p.2 = v
  · simp [e] at h
  · simp only [e, decide_false, cond_false] at h
    have ih := ivN_none h
    simp only [List.map_cons, List.mem_cons, not_or]
    exact ⟨fun e2 => e e2.symm, ih⟩
theorem fnd_hpS {hp : List (Nat × Ob)} {c : Nat} {o : Ob} : ∀ {ρ : List (Nat × Nat)}, fnd c (hpS hp ρ) = some o → ∃ id, (c, id) ∈ ρ ∧ fnd id hp = some o
 | [], h => by cases h
 | p :: r, h => by
  simp only [hpS] at h
  split at h
  · rename_i o' ho
    simp only [fnd, nbeq] at h
    by_cases e : p.1 = c
    · simp [e] at h; subst h e; exact ⟨p.2, List.mem_cons_self .., ho⟩
    · simp [e] at h
      obtain ⟨id, h1, h2⟩ := fnd_hpS h
      exact ⟨id, List.mem_cons_of_mem _ h1, h2⟩
  · obtain ⟨id, h1, h2⟩ := fnd_hpS h
    exact ⟨id, List.mem_cons_of_mem _ h1, h2⟩
theorem fndR_rfS {ρ : List (Nat × Nat)} {rf : List ((Nat × Nat) × AV0)} {c off : Nat} : ∀ {l : List ((Nat × Nat) × Nat)}, fndR c off (rfS ρ rf l) ≠ .un → ∃ id, lkN c ρ = some id ∧ fndR c off (rfS ρ rf l) = (fndR id off rf).nm (fun i => ivN i ρ)
 | [], h => (h rfl).elim
 | p :: r, h => by
  simp only [rfS, fndR, nbeq] at h ⊢
  by_cases e1 : p.1.1 = c
  · by_cases e2 : p.1.2 = off
    · subst e1 e2
      simp only [decide_true, cond_true] at h ⊢
      split at h
      · rename_i id hid; exact ⟨id, hid, by simp⟩
      · exact (h rfl).elim
    · simp only [e1, e2, decide_true, decide_false, cond_true, cond_false] at h ⊢; exact fndR_rfS h
  · simp only [e1, decide_false, cond_false] at h ⊢; exact fndR_rfS h
theorem RepA0.nm_ {w : World} {ok : Nat → Prop} {m m' : Nat → Value} {hp hp' : List (Nat × Ob)} {g : Nat → Option Nat} (hg : ∀ i j, g i = some j → SameO m m' hp hp' i → True) :
 ∀ {a : AV0} {v : Value}, (∀ i j, g i = some j → i ∈ a.refs → m' j = m i ∧ ∀ o, fnd j hp' = some o → ∃ o', fnd i hp = some o' ∧ (∀ e t xs, o = .row e t xs → ∃ xs', o' = .row e t xs') ∧ (∀ T t x, o = .box T t x → ∃ T t x', o' = .box T t x')) → RepA0 w ok m hp a v → RepA0 w ok m' hp' (a.nm g) v
 | .tv _ _, _, _, h => h
 | .rptr _ _, _, _, h => h
 | .fn _, _, _, h => h
 | .nilp, _, _, h => h
 | .elt _ _ _, _, _, _ => trivial
 | .sub _ _ _, _, _, _ => trivial
 | .bel _ _ _ _ _ _, _, _, _ => trivial
 | .wbx i off n e t, v, k, h => by
  simp only [AV0.nm]
  cases hi : g i with
  | none => exact True.intro
  | some j =>
   obtain ⟨h1, h2⟩ := k i j hi (by simp [AV0.refs])
   intro T t x hf
   obtain ⟨o', ho', _, k1⟩ := h2 _ hf
   obtain ⟨T', t', x', rfl⟩ := k1 _ _ _ rfl
   rw [h1]; exact h _ _ _ ho'
 | .clo _ _ _, _, _, h => h
 | .glb _, _, _, _ => trivial
 | .gel _ _, _, _, _ => trivial
 | .str _ _ _, _, _, _ => trivial
 | .own _ _ _, _, _, _ => trivial
 | .un, _, _, _ => trivial
 | .row i, v, k, h => by
  simp only [AV0.nm]
  cases hi : g i with
  | none => exact True.intro
  | some j =>
   obtain ⟨h1, h2⟩ := k i j hi (by simp [AV0.refs])
   intro e t xs hf
   obtain ⟨o', ho', k1, _⟩ := h2 _ hf
   obtain ⟨xs', rfl⟩ := k1 _ _ _ rfl
   rw [h1]; exact h _ _ _ ho'
 | .ptr i off, v, k, h => by
  simp only [AV0.nm]
  cases hi : g i with
  | none => exact True.intro
  | some j =>
   obtain ⟨h1, h2⟩ := k i j hi (by simp [AV0.refs])
   intro T t x hf
   obtain ⟨o', ho', _, k1⟩ := h2 _ hf
   obtain ⟨T', t', x', rfl⟩ := k1 _ _ _ rfl
   rw [h1]; exact h _ _ _ ho'
theorem fndE_init : ∀ (l : List AV0) (k i : Nat), fndE (k + i) (initE k l) = match l[i]? with | some a => .v a | none => .v .un
 | [], k, i => by simp [initE, fndE]
 | a :: l, k, i => by
  simp only [initE, fndE, nbeq]
  cases i with
  | zero => simp
  | succ i =>
   have : ¬ k = k + (i + 1) := by omega
   simp only [this, decide_false, cond_false]
   rw [show k + (i + 1) = (k + 1) + i by omega, fndE_init l (k + 1) i]
   simp
section
variable {P : Program} {cx : Cx} {w0 : Bas} {w : World} {ok0 ok : Nat → Prop} {m : Nat → Value} {st : St} {a : Act} {o : Oper} {K : St → Prop} {Q : Exit → Act → World → Prop}
theorem lkO_mem {c : Nat} {o : SkO} : ∀ {l : List (Nat × SkO)}, lkO c l = some o → (c, o) ∈ l
 | [], h => by cases h
 | p :: r, h => by
  simp only [lkO, nbeq] at h
  by_cases e : p.1 = c
  · simp [e] at h; subst h e; exact List.mem_cons_self ..
  · simp [e] at h; exact List.mem_cons_of_mem _ (lkO_mem h)
def subM (m : Nat → Value) (ρ : List (Nat × Nat)) (c : Nat) : Value := match lkN c ρ with | some id => m id | none => undef
theorem Rel.subS (r : Rel w0 m ok st a w) {S : Sk} {ρ : List (Nat × Nat)} {l : List AV0} {vals : List Value} (hk : (ρ.map (·.1)).Nodup) (hv : (ρ.map (·.2)).Nodup) (hin : ∀ p ∈ ρ, p.1 ∈ S.hp.map (·.1)) (hge : ∀ p ∈ S.hp, l.length ≤ p.1)
 (hlen : vals.length = l.length) (hargs : ∀ (i : Nat) (x : AV0), l[i]? = some x → ∃ v, vals[i]? = some v ∧ RepA0 w ok m st.hp x v) (g : GloW w (entX S (subM m ρ))) :
 Rel (entB S (subM m ρ) w g) (subM m ρ) ok (subS S st ρ l) (actOf vals) w := by
 have hm : ∀ c id, (c, id) ∈ ρ → subM m ρ c = m id := fun c id h => by unfold subM; rw [lkN_of hk h]
 have hf : ∀ {c o}, fnd c (hpS st.hp ρ) = some o → ∃ id, (c, id) ∈ ρ ∧ fnd id st.hp = some o := fun h => fnd_hpS h
 have nm : ∀ {x : AV0} {v : Value}, RepA0 w ok m st.hp x v → RepA0 w ok (subM m ρ) (hpS st.hp ρ) (x.nm fun i => ivN i ρ) v := fun h => by
  refine RepA0.nm_ (fun _ _ _ _ => True.intro) (fun i j hij _ => ?_) h
  have hij := ivN_mem hij
  refine ⟨hm j i hij, fun o ho => ?_⟩
  obtain ⟨id, h1, h2⟩ := hf ho
  have e : id = i := by
   have := lkN_of hk h1
   rw [lkN_of hk hij] at this
   exact (Option.some.inj this).symm
  subst e
  exact ⟨o, h2, fun e t xs h => ⟨xs, h⟩, fun T t x h => ⟨T, t, x, h⟩⟩
 refine ⟨Marks.nil, by simp [actOf, Go.Iv.subS, hlen], fun i => ?_, fun c o ho => ?_, fun c o b ho hb => ?_, fun c c' o o' b ho ho' hb hb' => ?_, r.okb, Kept.refl _, fun c v hp => ?_, fun c off hu T t x ho => ?_⟩
 · show RepA w ok _ (hpS st.hp ρ) (fndE i (initE 0 (l.map (AV0.nm fun i => ivN i ρ)))) (vals.toArray.getD i undef)
   have hi := fndE_init (l.map (AV0.nm fun i => ivN i ρ)) 0 i
   rw [Nat.zero_add] at hi
   rw [hi, List.getElem?_map]
   cases hx : l[i]? with
   | none => trivial
   | some x =>
    obtain ⟨v, h1, h2⟩ := hargs i x hx
    show RepA0 w ok _ _ (x.nm _) _
    rw [Array.getD_eq_getD_getElem?, List.getElem?_toArray, h1]
    exact nm h2
 · obtain ⟨id, h1, h2⟩ := hf ho
   rw [hm c id h1]; exact r.ob id o h2
 · obtain ⟨id, h1, h2⟩ := hf ho
   rw [hm c id h1] at hb
   have := r.sep id o b h2 hb
   exact ⟨this.1, .inr ⟨c, inL_mem.2 (hin _ h1), by rw [hm c id h1]; exact hb⟩, this.2.2⟩
 · obtain ⟨id, h1, h2⟩ := hf ho
   obtain ⟨id', h1', h2'⟩ := hf ho'
   rw [hm c id h1] at hb
   rw [hm c' id' h1'] at hb'
   have e := r.inj id id' o o' b h2 h2' hb hb'
   subst e
   have := ivN_of hv h1
   rw [ivN_of hv h1'] at this
   exact (Option.some.inj this).symm
 · obtain ⟨hp1, hp2⟩ := entB_pin hp
   obtain ⟨o, ho⟩ := pinS_lk hp1
   exact ⟨hge _ (lkO_mem ho), fun _ _ => hp2⟩
 · obtain ⟨id, h1, h2⟩ := hf ho
   have hu' := hu
   obtain ⟨id', h3, h4⟩ := fndR_rfS hu'
   rw [lkN_of hk h1] at h3
   cases h3
   have hun : fndR id off st.rf ≠ .un := fun e => by
    apply hu
    show fndR c off (rfS ρ st.rf S.rf) = .un
    rw [h4, e]; rfl
   obtain ⟨b, v, g1, g2, g3⟩ := r.rfs id off hun T t x h2
   refine ⟨b, v, by rw [hm c id h1]; exact g1, g2, ?_⟩
   show RepA0 w ok _ _ (fndR c off (rfS ρ st.rf S.rf)) v
   rw [h4]
   exact nm g3
theorem fnd_append {id : Nat} : ∀ {l1 l2 : List (Nat × Ob)}, fnd id (l1 ++ l2) = match fnd id l1 with | some o => some o | none => fnd id l2
 | [], l2 => rfl
 | p :: r, l2 => by
  simp only [List.cons_append, fnd, nbeq]
  by_cases e : p.1 = id
  · simp [e]
  · simp only [e, decide_false, cond_false]; exact fnd_append
theorem fnd_delA {A : List Nat} {id : Nat} : ∀ {l : List (Nat × Ob)}, fnd id (delA A l) = if id ∈ A then none else fnd id l
 | [] => by simp [delA, fnd]
 | p :: r => by
  have ih := fnd_delA (A := A) (id := id) (l := r)
  simp only [delA]
  cases hb : inL p.1 A with
  | true =>
   rw [cond_true, ih]
   by_cases h : id ∈ A
   · simp [h]
   · have : p.1 ≠ id := fun e => h (e ▸ inL_mem.1 hb)
     simp [h, fnd, nbeq, this]
  | false =>
   simp only [cond_false, fnd, nbeq, ih]
   by_cases e : p.1 = id
   · have : ¬ id ∈ A := fun h => by rw [← e] at h; rw [inL_mem.2 h] at hb; cases hb
     simp [e, this]
   · simp [e]
theorem fndR_offA {A : List Nat} {id off : Nat} : ∀ {l : List ((Nat × Nat) × AV0)}, fndR id off (offA A l) = if id ∈ A then .un else fndR id off l
 | [] => by simp [offA, fndR]
 | p :: r => by
  have ih := fndR_offA (A := A) (id := id) (off := off) (l := r)
  simp only [offA]
  cases hb : inL p.1.1 A with
  | true =>
   rw [cond_true, ih]
   by_cases h : id ∈ A
   · simp [h]
   · have : p.1.1 ≠ id := fun e => h (e ▸ inL_mem.1 hb)
     simp [h, fndR, nbeq, this]
  | false =>
   simp only [cond_false, fndR, nbeq, ih]
   by_cases e : p.1.1 = id
   · have : ¬ id ∈ A := fun h => by rw [← e] at h; rw [inL_mem.2 h] at hb; cases hb
     simp [e, this]
   · simp [e]
theorem fnd_hpB {ρ : List (Nat × Nat)} (hk : (ρ.map (·.1)).Nodup) (hv : (ρ.map (·.2)).Nodup) {id : Nat} : ∀ {hp : List (Nat × Ob)}, fnd id (hpB ρ hp) = match ivN id ρ with | some c => fnd c hp | none => none
 | [] => by cases ivN id ρ <;> rfl
 | p :: r => by
  have ih := fnd_hpB hk hv (id := id) (hp := r)
  simp only [hpB]
  cases h1 : lkN p.1 ρ with
  | none =>
   simp only
   rw [ih]
   cases h2 : ivN id ρ with
   | none => rfl
   | some c =>
    have := lkN_of hk (ivN_mem h2)
    have hne : p.1 ≠ c := fun e => by rw [e, this] at h1; cases h1
    simp [fnd, nbeq, hne]
  | some q =>
   simp only [fnd, nbeq]
   have h3 := lkN_mem h1
   by_cases e : q = id
   · subst e
     rw [ivN_of hv h3]
     simp [fnd, nbeq]
   · simp only [e, decide_false, cond_false]
     rw [ih]
     cases h2 : ivN id ρ with
     | none => rfl
     | some c =>
      have h4 := lkN_of hk (ivN_mem h2)
      have hne : p.1 ≠ c := fun e2 => by rw [e2, h4] at h1; exact e (Option.some.inj h1).symm
      simp [fnd, nbeq, hne]
theorem fndR_app2 {id off : Nat} {l2 : List ((Nat × Nat) × AV0)} : ∀ {l1 : List ((Nat × Nat) × AV0)}, fndR id off (l1 ++ l2) = fndR id off l1 ∨ ((∀ p ∈ l1, p.1 ≠ (id, off)) ∧ fndR id off (l1 ++ l2) = fndR id off l2)
 | [] => .inr ⟨fun p hp => by simp at hp, rfl⟩
 | p :: r => by
  have ih := fndR_app2 (id := id) (off := off) (l2 := l2) (l1 := r)
  simp only [List.cons_append, fndR, nbeq]
  by_cases e1 : p.1.1 = id
  · by_cases e2 : p.1.2 = off
    · simp [e1, e2]
    · simp only [e1, e2, decide_true, decide_false, cond_true, cond_false]
      refine ih.imp (fun h => h) fun ⟨h1, h2⟩ => ⟨fun q hq => ?_, h2⟩
      rcases List.mem_cons.1 hq with rfl | hq
      · exact fun e => e2 (congrArg Prod.snd e)
      · exact h1 q hq
  · simp only [e1, decide_false, cond_false]
    refine ih.imp (fun h => h) fun ⟨h1, h2⟩ => ⟨fun q hq => ?_, h2⟩
    rcases List.mem_cons.1 hq with rfl | hq
    · exact fun e => e1 (congrArg Prod.fst e)
    · exact h1 q hq
theorem fndR_rfB {ρ : List (Nat × Nat)} (hk : (ρ.map (·.1)).Nodup) (hv : (ρ.map (·.2)).Nodup) {id off : Nat} : ∀ {rf : List ((Nat × Nat) × AV0)}, fndR id off (rfB ρ rf) ≠ .un → ∃ c, (c, id) ∈ ρ ∧ fndR id off (rfB ρ rf) = (fndR c off rf).nm fun i => lkN i ρ
 | [], h => (h rfl).elim
 | p :: r, h => by
  simp only [rfB] at h ⊢
  cases h1 : lkN p.1.1 ρ with
  | none =>
   rw [h1] at h
   simp only at h ⊢
   obtain ⟨c, h2, h3⟩ := fndR_rfB hk hv h
   refine ⟨c, h2, ?_⟩
   have := lkN_of hk h2
   have hne : p.1.1 ≠ c := fun e => by rw [e, this] at h1; cases h1
   simp only [fndR, nbeq, hne, decide_false, cond_false]; exact h3
  | some q =>
   rw [h1] at h
   simp only [fndR, nbeq] at h ⊢
   have h4 := lkN_mem h1
   by_cases e : q = id
   · subst e
     by_cases e2 : p.1.2 = off
     · refine ⟨p.1.1, h4, ?_⟩
       simp [e2]
     · simp only [e2, decide_true, decide_false, cond_true, cond_false] at h ⊢
       obtain ⟨c, h2, h3⟩ := fndR_rfB hk hv h
       have := ivN_of hv h2
       rw [ivN_of hv h4] at this
       obtain rfl := Option.some.inj this
       refine ⟨_, h2, ?_⟩
       simp only [e2, decide_true, decide_false, cond_true, cond_false]; exact h3
   · simp only [e, decide_false, cond_false] at h ⊢
     obtain ⟨c, h2, h3⟩ := fndR_rfB hk hv h
     refine ⟨c, h2, ?_⟩
     have := lkN_of hk h2
     have hne : p.1.1 ≠ c := fun e2 => by rw [e2, this] at h1; exact e (Option.some.inj h1).symm
     simp only [hne, decide_false, cond_false]; exact h3
theorem kill_cases (d : Nat) (x : AV0) : x.kill d = .un ∨ (x.kill d = x ∧ d ∉ x.refs) := by
 cases x with
 | row i =>
  by_cases e : i = d
  · exact .inl (by simp [AV0.kill, nbeq, e])
  · exact .inr ⟨by simp [AV0.kill, nbeq, e], by simp only [AV0.refs, List.mem_singleton]; exact fun h => e h.symm⟩
 | ptr i o =>
  by_cases e : i = d
  · exact .inl (by simp [AV0.kill, nbeq, e])
  · exact .inr ⟨by simp [AV0.kill, nbeq, e], by simp only [AV0.refs, List.mem_singleton]; exact fun h => e h.symm⟩
 | elt i j o =>
  by_cases e : i = d
  · exact .inl (by simp [AV0.kill, nbeq, e])
  · exact .inr ⟨by simp [AV0.kill, nbeq, e], by simp only [AV0.refs, List.mem_singleton]; exact fun h => e h.symm⟩
 | sub i j o =>
  by_cases e : i = d
  · exact .inl (by simp [AV0.kill, nbeq, e])
  · exact .inr ⟨by simp [AV0.kill, nbeq, e], by simp only [AV0.refs, List.mem_singleton]; exact fun h => e h.symm⟩
 | bel i o j f n t =>
  by_cases e : i = d
  · exact .inl (by simp [AV0.kill, nbeq, e])
  · exact .inr ⟨by simp [AV0.kill, nbeq, e], by simp only [AV0.refs, List.mem_singleton]; exact fun h => e h.symm⟩
 | wbx i o n e0 t =>
  by_cases e : i = d
  · exact .inl (by simp [AV0.kill, nbeq, e])
  · exact .inr ⟨by simp [AV0.kill, nbeq, e], by simp only [AV0.refs, List.mem_singleton]; exact fun h => e h.symm⟩
 | clo _ _ _ => exact .inr ⟨rfl, by simp [AV0.refs]⟩
 | glb _ => exact .inr ⟨rfl, by simp [AV0.refs]⟩
 | gel _ _ => exact .inr ⟨rfl, by simp [AV0.refs]⟩
 | str t y rs =>
  simp only [AV0.kill]
  cases hc : cAny d rs with
  | true => exact .inl rfl
  | false =>
   refine .inr ⟨rfl, fun hm => ?_⟩
   simp only [AV0.refs, List.mem_map, List.mem_filter] at hm
   obtain ⟨p, ⟨hp, h1⟩, h2⟩ := hm
   rcases cAny_no hc p hp with h3 | h3
   · rw [h3] at h1; cases h1
   · exact h3 h2
 | tv _ _ => exact .inr ⟨rfl, by simp [AV0.refs]⟩
 | rptr _ _ => exact .inr ⟨rfl, by simp [AV0.refs]⟩
 | fn _ => exact .inr ⟨rfl, by simp [AV0.refs]⟩
 | nilp => exact .inr ⟨rfl, by simp [AV0.refs]⟩
 | own _ _ _ => exact .inr ⟨rfl, by simp [AV0.refs]⟩
 | un => exact .inl rfl
theorem killL_un : ∀ l : List Nat, AV0.killL l .un = .un
 | [] => rfl
 | i :: r => by unfold AV0.killL; exact killL_un r
theorem killL_cases : ∀ (l : List Nat) (x : AV0), x.killL l = .un ∨ (x.killL l = x ∧ ∀ i ∈ x.refs, i ∉ l)
 | [], x => .inr ⟨rfl, fun _ _ h => by simp at h⟩
 | d :: r, x => by
  unfold AV0.killL
  rcases kill_cases d x with e | ⟨e, hd⟩
  · rw [e, killL_un]; exact .inl rfl
  · rw [e]
    refine (killL_cases r x).imp id fun ⟨h1, h2⟩ => ⟨h1, fun i hi hm => ?_⟩
    rcases List.mem_cons.1 hm with rfl | hm
    · exact hd hi
    · exact h2 i hi hm
theorem RepA0.stay_ {w : World} {ok : Nat → Prop} {m m' : Nat → Value} {hp hp' : List (Nat × Ob)} :
 ∀ {a : AV0} {v : Value}, (∀ i ∈ a.refs, m' i = m i ∧ ∀ o, fnd i hp' = some o → ∃ o', fnd i hp = some o' ∧ (∀ e t xs, o = .row e t xs → ∃ xs', o' = .row e t xs') ∧ (∀ T t x, o = .box T t x → ∃ T t x', o' = .box T t x')) → RepA0 w ok m hp a v → RepA0 w ok m' hp' a v := by
 have R : ∀ {a : AV0} {v : Value}, (∀ i ∈ a.refs, m' i = m i ∧ ∀ o, fnd i hp' = some o → ∃ o', fnd i hp = some o' ∧ (∀ e t xs, o = .row e t xs → ∃ xs', o' = .row e t xs') ∧ (∀ T t x, o = .box T t x → ∃ T t x', o' = .box T t x')) → RepR m hp a v → RepR m' hp' a v := by
  intro a v k h
  cases a <;> try exact True.intro
  · rename_i id
    intro e t xs hf
    obtain ⟨hm, k⟩ := k id (by simp [AV0.refs])
    obtain ⟨o', ho', k1, _⟩ := k _ hf
    obtain ⟨xs', rfl⟩ := k1 _ _ _ rfl
    rw [hm]; exact h _ _ _ ho'
  · rename_i id off
    intro T t x hf
    obtain ⟨hm, k⟩ := k id (by simp [AV0.refs])
    obtain ⟨o', ho', _, k1⟩ := k _ hf
    obtain ⟨T', t', xs', rfl⟩ := k1 _ _ _ rfl
    rw [hm]; exact h _ _ _ ho'
  · exact h
 intro a v k h
 cases a with
 | tv _ _ => exact h
 | rptr _ _ => exact h
 | fn _ => exact h
 | nilp => exact h
 | clo _ _ _ => exact h
 | glb _ => exact h
 | gel _ _ => exact h
 | bel id o j f n t =>
  intro T bt x hf
  obtain ⟨hm, k⟩ := k id (by simp [AV0.refs])
  obtain ⟨o', ho', _, k1⟩ := k _ hf
  obtain ⟨T', t', xs', rfl⟩ := k1 _ _ _ rfl
  rw [hm]; exact h _ _ _ ho'
 | wbx id o n e t =>
  intro T bt x hf
  obtain ⟨hm, k⟩ := k id (by simp [AV0.refs])
  obtain ⟨o', ho', _, k1⟩ := k _ hf
  obtain ⟨T', t', xs', rfl⟩ := k1 _ _ _ rfl
  rw [hm]; exact h _ _ _ ho'
 | own _ _ _ => trivial
 | un => trivial
 | row id => exact R k h
 | ptr id off => exact R k h
 | elt id i off =>
  intro e t xs hf
  obtain ⟨hm, k⟩ := k id (by simp [AV0.refs])
  obtain ⟨o', ho', k1, _⟩ := k _ hf
  obtain ⟨xs', rfl⟩ := k1 _ _ _ rfl
  rw [hm]; exact h _ _ _ ho'
 | sub id i off =>
  intro e t xs hf
  obtain ⟨hm, k⟩ := k id (by simp [AV0.refs])
  obtain ⟨o', ho', k1, _⟩ := k _ hf
  obtain ⟨xs', rfl⟩ := k1 _ _ _ rfl
  rw [hm]; exact h _ _ _ ho'
 | str t x rs =>
  obtain ⟨cs, e, hr, hk⟩ := h
  exact ⟨cs, e, hr, fun p hp => let ⟨u, hu, hq⟩ := hk p hp; ⟨u, hu, R (fun id hid => k id (str_refs hp hid)) hq⟩⟩
theorem hpMk_lk {c : Nat} : ∀ {l : List (Nat × SkO)} {x : hpD l} {o : SkO}, lkO c l = some o → ∃ y, fnd c (hpMk l x) = some (o.mk y)
 | [], _, _, h => by cases h
 | (i, q) :: r, x, o, h => by
  simp only [lkO, nbeq] at h
  simp only [hpMk, fnd, nbeq]
  by_cases e : i = c
  · simp [e] at h ⊢; subst h; exact ⟨x.1, rfl⟩
  · simp [e] at h ⊢; exact hpMk_lk h
theorem fnd_mk {c : Nat} {ob : Ob} : ∀ {l : List (Nat × SkO)} {x : hpD l}, fnd c (hpMk l x) = some ob → ∃ o y, lkO c l = some o ∧ ob = o.mk y
 | [], _, h => by cases h
 | (i, q) :: r, x, h => by
  simp only [hpMk, fnd, nbeq] at h
  simp only [lkO, nbeq]
  by_cases e : i = c
  · simp [e] at h ⊢; exact ⟨_, h.symm⟩
  · simp only [e, decide_false, cond_false] at h ⊢; exact fnd_mk h
theorem Rel.back (r : Rel w0 m ok st a w) {S : IoS} {ρ nw : List (Nat × Nat)} {d : Option Tmp} {us : List Value} {y : S.out.D} {m2 : Nat → Value} {ok2 : Nat → Prop} {w' : World} {g : GloW w (entX S.inn (subM m ρ))}
 (hk : ((ρ ++ nw).map (·.1)).Nodup) (hv : ((ρ ++ nw).map (·.2)).Nodup)
 (hin : ∀ p ∈ S.inn.hp, ∃ id, (p.1, id) ∈ ρ) (hob : ∀ c id, (c, id) ∈ ρ → ∃ o y, lkO c S.inn.hp = some o ∧ fnd id st.hp = some (o.mk y))
 (hnw : ∀ p ∈ nw, p.2 < st.n ∧ p.1 ∉ S.inn.hp.map (·.1)) (hout : ∀ p ∈ S.out.hp, p.1 ∈ (ρ ++ nw).map (·.1) ∧ bxOK S p = true) (hkp : ∀ p ∈ ρ, p.2 < st.n ∨ keepB S.inn S.out.hp p.1 = true)
 (r2 : Rel (entB S.inn (subM m ρ) w g) m2 ok2 (S.out.mk' y) (actOf us) w') (hok2 : ∀ b, ok2 b → ok b ∨ (entB S.inn (subM m ρ) w g).fr b) (hus : us.length = S.out.n) :
 ∃ m3 ok3, Rel w0 m3 ok3 ((backS S (ρ ++ nw) st (S.out.mk' y)).put d (resAV (resS (ρ ++ nw) (S.out.mk' y) S.out.n 0))) (a.put d (tupV us)) w' ∧ (∀ b, ok3 b → ok b ∨ w0.fr b) ∧ (∀ b, ok b → ok3 b) ∧ ∀ b, ok3 b → ok b ∨ (entB S.inn (subM m ρ) w g).fr b := by
 have hkρ : (ρ.map (·.1)).Nodup := by rw [List.map_append] at hk; exact (List.nodup_append.1 hk).1
 have subM_of : ∀ {c id}, (c, id) ∈ ρ → subM m ρ c = m id := fun h => by unfold subM; rw [lkN_of hkρ h]
 generalize hρ2 : ρ ++ nw = ρ2 at *
 have hsub : ∀ p ∈ ρ, p ∈ ρ2 := fun p hp => by rw [← hρ2]; exact List.mem_append_left _ hp
 have hcase : ∀ p ∈ ρ2, p ∈ ρ ∨ p ∈ nw := fun p hp => by rw [← hρ2] at hp; exact List.mem_append.1 hp
 -- the callee's own blocks
 have entE : ∀ {b}, (entB S.inn (subM m ρ) w g).x b → ∃ c id o, (c, id) ∈ ρ ∧ fnd id st.hp = some o ∧ blk (m id) = some b := by
  rintro b ⟨c, hc, hb⟩
  obtain ⟨p, hp, rfl⟩ := List.mem_map.1 (inL_mem.1 hc)
  obtain ⟨id, hid⟩ := hin p hp
  obtain ⟨o, z, _, ho⟩ := hob _ _ hid
  exact ⟨p.1, id, _, hid, ho, by rw [subM_of hid] at hb; exact hb⟩
 have same : ∀ {b}, b < w.heap.size → ¬ (entB S.inn (subM m ρ) w g).x b → w'.heap[b]? = w.heap[b]? := fun h1 h2 => r2.keep.block _ h1 h2
 have hok : ∀ b, ok b → w'.heap[b]? = w.heap[b]? := fun b hb => same (r.okb b hb) fun he => by
  obtain ⟨c, id, o, _, ho, hbl⟩ := entE he
  exact (r.sep id o b ho hbl).1 hb
 have hother : ∀ {id o b}, (∀ c, (c, id) ∉ ρ) → fnd id st.hp = some o → blk (m id) = some b → ¬ (entB S.inn (subM m ρ) w g).x b := fun hn ho hb he => by
  obtain ⟨c, id', o', hc, ho', hb'⟩ := entE he
  have := r.inj _ _ _ _ _ ho' ho hb' hb
  subst this
  exact hn c hc
 have hfr : ∀ {b}, (entB S.inn (subM m ρ) w g).fr b → w0.fr b ∧ ¬ ok b := by
  rintro b (h | h)
  · exact ⟨r.keep.old h, fun hk => by have := r.okb b hk; have : w.heap.size ≤ b := h; omega⟩
  · obtain ⟨c, id, o, _, ho, hbl⟩ := entE h
    exact ⟨(r.sep id o b ho hbl).2.1, (r.sep id o b ho hbl).1⟩
 -- what is found afterwards
 obtain ⟨hp2, hhp2⟩ : ∃ hp2, hp2 = hpB ρ2 (S.out.mk' y).hp ++ delA (ρ2.map (·.2)) st.hp := ⟨_, rfl⟩
 have fA : ∀ {c id}, (c, id) ∈ ρ2 → fnd id hp2 = fnd c (S.out.mk' y).hp := by
  intro c id h
  rw [hhp2, fnd_append, fnd_hpB hk hv, ivN_of hv h]
  simp only
  cases hc : fnd c (S.out.mk' y).hp with
  | some o => rfl
  | none => simp only; rw [fnd_delA, if_pos (List.mem_map.2 ⟨_, h, rfl⟩)]
 have fN : ∀ {id}, ivN id ρ2 = none → fnd id hp2 = fnd id st.hp := by
  intro id h
  rw [hhp2, fnd_append, fnd_hpB hk hv, h]
  simp only
  rw [fnd_delA, if_neg (ivN_none h)]
 obtain ⟨m3, hm3⟩ : ∃ m3 : Nat → Value, m3 = fun id => match ivN id ρ2 with | some c => m2 c | none => m id := ⟨_, rfl⟩
 have mA : ∀ {c id}, (c, id) ∈ ρ2 → m3 id = m2 c := fun h => by rw [hm3]; simp only; rw [ivN_of hv h]
 have mN : ∀ {id}, ivN id ρ2 = none → m3 id = m id := fun h => by rw [hm3]; simp only; rw [h]
 have outK : ∀ {c o}, fnd c (S.out.mk' y).hp = some o → ∃ q z, lkO c S.out.hp = some q ∧ o = q.mk z := fun h => by
  obtain ⟨q, z, h1, h2⟩ := fnd_mk h
  exact ⟨q, z, h1, h2⟩
 -- variables stay where they stand
 have boxA : ∀ {c id T t x}, (c, id) ∈ ρ2 → fnd id hp2 = some (.box T t x) → (∃ T t x', fnd id st.hp = some (.box T t x') ∧ m3 id = m id) ∨ id < st.n := by
  intro c id T t x h ho
  rw [fA h] at ho
  obtain ⟨q, z, hq, e⟩ := outK ho
  obtain ⟨T1, t1, rfl⟩ : ∃ T1 t1, q = .box T1 t1 := by cases q with
   | box T1 t1 => exact ⟨_, _, rfl⟩
   | row e1 t1 => cases e
  rcases hcase _ h with h' | h'
  · obtain ⟨o1, z1, ho1, hf1⟩ := hob _ _ h'
    have hb := (hout _ (lkO_mem hq)).2
    unfold bxOK at hb
    rw [ho1] at hb
    cases o1 with
    | row e2 t2 => cases hb
    | box T2 t2 =>
     refine .inl ⟨T2, t2, z1, hf1, ?_⟩
     rw [mA h]
     have := (r2.pins c (subM m ρ c) (pin_of (by unfold pinS; rw [ho1]))).2 _ ho
     rw [this, subM_of h']
  · exact .inr (hnw _ h').1
 have stay : ∀ {x : AV0}, (∀ i ∈ x.refs, i ∉ killI S.inn S.out.hp ρ2) → ∀ i ∈ x.refs, m3 i = m i ∧ ∀ o, fnd i hp2 = some o → ∃ o', fnd i st.hp = some o' ∧ (∀ e t xs, o = .row e t xs → ∃ xs', o' = .row e t xs') ∧ (∀ T t x, o = .box T t x → ∃ T t x', o' = .box T t x') := by
  intro x hx i hi
  cases hiv : ivN i ρ2 with
  | none => exact ⟨mN hiv, fun o ho => ⟨o, by rw [← fN hiv]; exact ho, fun e t xs h => ⟨xs, h⟩, fun T t x h => ⟨T, t, x, h⟩⟩⟩
  | some c =>
   have hm := ivN_mem hiv
   have hkeep : keepB S.inn S.out.hp c = true := by
    have : ∀ l : List (Nat × Nat), (c, i) ∈ l → i ∉ killI S.inn S.out.hp l → keepB S.inn S.out.hp c = true := by
     intro l
     induction l with
     | nil => intro h; simp at h
     | cons p l ih =>
      intro h hn
      simp only [killI] at hn
      rcases List.mem_cons.1 h with rfl | h
      · cases hq : keepB S.inn S.out.hp c with
        | true => rfl
        | false => rw [hq] at hn; simp at hn
      · cases hq : keepB S.inn S.out.hp p.1 with
        | true => rw [hq] at hn; exact ih h hn
        | false => rw [hq] at hn; simp at hn; exact ih h hn.2
    exact this ρ2 hm (hx i hi)
   unfold keepB at hkeep
   split at hkeep
   · rename_i T1 t1 T2 t2 h1 h2
     obtain ⟨z, hz⟩ := hpMk_lk (x := (envMk S.out.env y).2) h2
     have hz : fnd c (S.out.mk' y).hp = some (.box T2 t2 z) := hz
     have hρ : (c, i) ∈ ρ := by
      rcases hcase _ hm with h | h
      · exact h
      · exact ((hnw _ h).2 (List.mem_map.2 ⟨_, lkO_mem h1, rfl⟩)).elim
     obtain ⟨o1, z1, ho1, hf1⟩ := hob _ _ hρ
     rw [h1] at ho1
     cases ho1
     have hmi : m3 i = m i := by
      rw [mA hm]
      have := (r2.pins c (subM m ρ c) (pin_of (by unfold pinS; rw [h1]))).2 _ hz
      rw [this, subM_of hρ]
     refine ⟨hmi, fun o ho => ⟨_, hf1, fun e t xs he => ?_, fun T t x he => ⟨_, _, _, rfl⟩⟩⟩
     rw [fA hm, hz] at ho
     cases ho; cases he
   · rename_i e1 t1 e2 t2 h1 h2
     simp only [Bool.and_eq_true, decide_eq_true_eq] at hkeep
     obtain ⟨hev, he12, ht12⟩ := hkeep
     have he12 := Nat.eq_of_beq_eq_true he12
     subst he12 ht12
     obtain ⟨z, hz⟩ := hpMk_lk (x := (envMk S.out.env y).2) h2
     have hz : fnd c (S.out.mk' y).hp = some (.row e1 t1 z) := hz
     have hρ : (c, i) ∈ ρ := by
      rcases hcase _ hm with h | h
      · exact h
      · exact ((hnw _ h).2 (List.mem_map.2 ⟨_, lkO_mem h1, rfl⟩)).elim
     obtain ⟨o1, z1, ho1, hf1⟩ := hob _ _ hρ
     rw [h1] at ho1
     cases ho1
     have hmi : m3 i = m i := by
      rw [mA hm]
      have := (r2.pins c (subM m ρ c) (pin_of (by unfold pinS; rw [h1]; exact hev))).2 _ hz
      rw [this, subM_of hρ]
     refine ⟨hmi, fun o ho => ⟨_, hf1, fun e t xs he => ?_, fun T t x he => ?_⟩⟩
     · rw [fA hm, hz] at ho
       cases ho; cases he
       exact ⟨_, rfl⟩
     · rw [fA hm, hz] at ho
       cases ho; cases he
   · cases hkeep
 have ko : ∀ {x : AV0} {v : Value}, RepA0 w ok m st.hp x v → RepA0 w' (fun b => ok b ∨ ok2 b) m3 hp2 (x.killL (killI S.inn S.out.hp ρ2)) v := by
  intro x v h
  rcases killL_cases (killI S.inn S.out.hp ρ2) x with e | ⟨e, hx⟩
  · rw [e]; trivial
  · rw [e]; exact (RepA0.stay_ (stay hx) h).mono hok (fun b hb => .inl hb)
 have no : ∀ {x : AV0} {v : Value}, RepA0 w' ok2 m2 (S.out.mk' y).hp x v → RepA0 w' (fun b => ok b ∨ ok2 b) m3 hp2 (x.nm fun i => lkN i ρ2) v := by
  intro x v h
  refine RepA0.ok_ (ok := ok2) (fun b hb => .inr hb) (RepA0.nm_ (m := m2) (hp := (S.out.mk' y).hp) (fun _ _ _ _ => True.intro) (fun i j hij _ => ?_) h)
  have hij := lkN_mem hij
  exact ⟨mA hij, fun o ho => ⟨o, by rw [← fA hij]; exact ho, fun e t xs h => ⟨xs, h⟩, fun T t x h => ⟨T, t, x, h⟩⟩⟩
 have rA : Rel w0 m3 (fun b => ok b ∨ ok2 b) (backS S ρ2 st (S.out.mk' y)) a w' := by
  have dm : Marks w0 w' (fun b => ok b ∨ ok2 b) a.defers := r.defers.move fun D _ c f n => by
   have hlt := (Array.getElem?_eq_some_iff.1 c).1
   have hnx : ¬ (entB S.inn (subM m ρ) w g).x D := fun he => by
    obtain ⟨c', id, o, _, ho, hbl⟩ := entE he
    exact r.noMark ho hbl c rfl
   refine ⟨f, fun h => h.elim n (fun h => (hok2 D h).elim n (fun h => h.elim (fun h => ?_) hnx)), same hlt hnx⟩
   have : w.heap.size ≤ D := h
   omega
  refine ⟨dm, r.size, fun i => ?_, fun id o ho => ?_, fun id o b ho hb => ?_, fun id id' o o' b ho ho' hb hb' => ?_, fun b hb => ?_, ?_, fun id v hp => ?_, fun id off hu T t x ho => ?_⟩
  · show RepA w' _ m3 (hpB ρ2 (S.out.mk' y).hp ++ delA (ρ2.map (·.2)) st.hp) (fndE i (mapE (AV.killL (killI S.inn S.out.hp ρ2)) st.env)) _
    rw [← hhp2, fndE_map _ (by
     have : ∀ l : List Nat, AV.killL l (.v .un) = .v .un := by
      intro l
      induction l with
      | nil => rfl
      | cons i l ih => unfold AV.killL; exact ih
     exact this _)]
    have hi := r.env i
    revert hi
    show RepA w ok m st.hp (fndE i st.env) _ → _
    have kv : ∀ (l : List Nat) (q : AV0), AV.killL l (.v q) = .v (q.killL l) := by
     intro l
     induction l with
     | nil => intro q; rfl
     | cons i l ih => intro q; unfold AV.killL AV0.killL; exact ih _
    have kt : ∀ (l : List Nat) (q : List AV0), AV.killL l (.tup q) = .tup (q.map (AV0.killL l)) := by
     intro l
     induction l with
     | nil => intro q; simp [AV.killL, show (AV0.killL []) = id from by funext x; rfl]
     | cons i l ih => intro q; unfold AV.killL; rw [show AV.kill i (.tup q) = .tup (q.map (AV0.kill i)) from rfl, ih]; simp [AV0.killL, Function.comp_def]
    cases fndE i st.env with
    | v q => intro h; rw [kv]; exact ko h
    | tup q =>
     rintro ⟨us', e, hl, h⟩
     rw [kt]
     refine ⟨us', e, by simp [hl], fun j x hx => ?_⟩
     rw [List.getElem?_map] at hx
     cases hy : q[j]? with
     | none => rw [hy] at hx; cases hx
     | some x0 =>
      rw [hy] at hx
      cases hx
      obtain ⟨u, hu, hr⟩ := h j x0 hy
      exact ⟨u, hu, ko hr⟩
  · have ho : fnd id hp2 = some o := by rw [hhp2]; exact ho
    cases hiv : ivN id ρ2 with
    | none =>
     rw [fN hiv] at ho
     rw [mN hiv]
     have hro := r.ob id o ho
     have hh : ∀ b, blk (m id) = some b → w'.heap[b]? = w.heap[b]? := fun b hb => same (r.sep id o b ho hb).2.2 (hother (fun c hc => by rw [ivN_of hv (hsub _ hc)] at hiv; cases hiv) ho hb)
     cases o with
     | box T t x =>
      obtain ⟨b, cells, e, hb, hr⟩ := hro
      exact ⟨b, cells, e, by rw [hh b (by rw [e]; rfl)]; exact hb, hr.move hok (fun b hb => .inl hb)⟩
     | row e t xs =>
      obtain ⟨inner, how, hr⟩ := hro
      refine ⟨inner, ⟨how.1, ?_⟩, RepL.imp (fun x c h => h.move hok (fun b hb => .inl hb)) hr⟩
      rcases how.2 with h | ⟨g, cap, cur, e1, hb, hg, rest⟩
      · exact .inl h
      · exact .inr ⟨g, cap, cur, e1, hb, by rw [hh g (by rw [e1]; rfl)]; exact hg, rest⟩
    | some c =>
     have hm := ivN_mem hiv
     rw [fA hm] at ho
     rw [mA hm]
     have hro := r2.ob c o ho
     cases o with
     | box T t x =>
      obtain ⟨b, cells, e, hb, hr⟩ := hro
      exact ⟨b, cells, e, hb, hr.move (fun _ _ => rfl) (fun b hb => .inr hb)⟩
     | row e t xs =>
      obtain ⟨inner, how, hr⟩ := hro
      exact ⟨inner, how, RepL.imp (fun x c h => h.move (fun _ _ => rfl) (fun b hb => .inr hb)) hr⟩
  · have ho : fnd id hp2 = some o := by rw [hhp2]; exact ho
    cases hiv : ivN id ρ2 with
    | none =>
     rw [fN hiv] at ho
     rw [mN hiv] at hb
     have h1 := r.sep id o b ho hb
     refine ⟨fun h => h.elim h1.1 (fun h2 => ?_), h1.2.1, Nat.lt_of_lt_of_le h1.2.2 r2.keep.size⟩
     rcases hok2 b h2 with h3 | (h3 | h3)
     · exact h1.1 h3
     · have : w.heap.size ≤ b := h3; omega
     · exact hother (fun c hc => by rw [ivN_of hv (hsub _ hc)] at hiv; cases hiv) ho hb h3
    | some c =>
     have hm := ivN_mem hiv
     rw [fA hm] at ho
     rw [mA hm] at hb
     have h1 := r2.sep c o b ho hb
     exact ⟨fun h => h.elim (hfr h1.2.1).2 h1.1, (hfr h1.2.1).1, h1.2.2⟩
  · have ho : fnd id hp2 = some o := by rw [hhp2]; exact ho
    have ho' : fnd id' hp2 = some o' := by rw [hhp2]; exact ho'
    have cross : ∀ {c i j o1 o2 b}, (c, i) ∈ ρ2 → fnd c (S.out.mk' y).hp = some o1 → blk (m2 c) = some b → ivN j ρ2 = none → fnd j st.hp = some o2 → blk (m j) = some b → False := by
     intro c i j o1 o2 b h1 h2 h3 h4 h5 h6
     have h7 := r2.sep c o1 b h2 h3
     rcases h7.2.1 with h8 | h8
     · have := (r.sep j o2 b h5 h6).2.2; have : w.heap.size ≤ b := h8; omega
     · exact hother (fun c hc => by rw [ivN_of hv (hsub _ hc)] at h4; cases h4) h5 h6 h8
    cases hiv : ivN id ρ2 with
    | none =>
     rw [fN hiv] at ho; rw [mN hiv] at hb
     cases hiv' : ivN id' ρ2 with
     | none => rw [fN hiv'] at ho'; rw [mN hiv'] at hb'; exact r.inj _ _ _ _ _ ho ho' hb hb'
     | some c' =>
      have hm' := ivN_mem hiv'
      rw [fA hm'] at ho'; rw [mA hm'] at hb'
      exact (cross hm' ho' hb' hiv ho hb).elim
    | some c =>
     have hm := ivN_mem hiv
     rw [fA hm] at ho; rw [mA hm] at hb
     cases hiv' : ivN id' ρ2 with
     | none => rw [fN hiv'] at ho'; rw [mN hiv'] at hb'; exact (cross hm ho hb hiv' ho' hb').elim
     | some c' =>
      have hm' := ivN_mem hiv'
      rw [fA hm'] at ho'; rw [mA hm'] at hb'
      have e := r2.inj _ _ _ _ _ ho ho' hb hb'
      subst e
      have := lkN_of hk hm
      rw [lkN_of hk hm'] at this
      exact (Option.some.inj this).symm
  · rcases hb with hb | hb
    · exact Nat.lt_of_lt_of_le (r.okb b hb) r2.keep.size
    · exact r2.okb b hb
  · refine ⟨r2.keep.os.trans r.keep.os, r2.keep.tape.trans r.keep.tape, r2.keep.output.trans r.keep.output, Nat.le_trans r.keep.size r2.keep.size, fun k hk0 hx => ?_⟩
    rw [same (Nat.lt_of_lt_of_le hk0 r.keep.size) fun he => by
     have := (hfr (b := k) (.inr he)).1
     exact Bas.no hk0 hx this rfl]
    exact r.keep.block k hk0 hx
  · refine ⟨(r.pins id v hp).1, fun o ho => ?_⟩
    have ho : fnd id hp2 = some o := by rw [hhp2]; exact ho
    cases hiv : ivN id ρ2 with
    | none => rw [fN hiv] at ho; rw [mN hiv]; exact (r.pins id v hp).2 _ ho
    | some c =>
     have hpn := (r.pins id v hp).1
     have hm := ivN_mem hiv
     rcases hcase _ hm with h' | h'
     · rcases hkp _ h' with h1 | h1
       · have h1 : id < st.n := h1
         omega
       · rw [fA hm] at ho
         obtain ⟨o1, z1, ho1, hf1⟩ := hob _ _ h'
         have hps : pinS S.inn c = true := by
          have h1 : keepB S.inn S.out.hp c = true := h1
          unfold keepB at h1
          split at h1
          · rename_i h2 _; unfold pinS; rw [h2]
          · rename_i h2 _; unfold pinS; rw [h2]; simp only [Bool.and_eq_true] at h1; exact h1.1
          · cases h1
         have := (r2.pins c (subM m ρ c) (pin_of hps)).2 _ ho
         rw [mA hm, this, subM_of h']
         exact (r.pins id v hp).2 _ hf1
     · have h1 : id < st.n := (hnw _ h').1
       omega
  · have ho : fnd id hp2 = some (.box T t x) := by rw [hhp2]; exact ho
    have hu : fndR id off (rfB ρ2 (S.out.mk' y).rf ++ mapR (AV0.killL (killI S.inn S.out.hp ρ2)) (offA (ρ2.map (·.2)) st.rf)) ≠ .un := hu
    show ∃ b v, m3 id = _ ∧ _ ∧ RepA0 w' _ m3 (hpB ρ2 (S.out.mk' y).hp ++ delA (ρ2.map (·.2)) st.hp) (fndR id off (rfB ρ2 (S.out.mk' y).rf ++ mapR (AV0.killL (killI S.inn S.out.hp ρ2)) (offA (ρ2.map (·.2)) st.rf))) v
    rw [← hhp2]
    rcases fndR_app2 (id := id) (off := off) (l1 := rfB ρ2 (S.out.mk' y).rf) (l2 := mapR (AV0.killL (killI S.inn S.out.hp ρ2)) (offA (ρ2.map (·.2)) st.rf)) with e | ⟨_, e⟩
    · rw [e] at hu ⊢
      obtain ⟨c, hm, e2⟩ := fndR_rfB hk hv hu
      rw [fA hm] at ho
      have hun : fndR c off (S.out.mk' y).rf ≠ .un := fun e3 => by rw [e2, e3] at hu; exact hu rfl
      obtain ⟨b, v, g1, g2, g3⟩ := r2.rfs c off hun _ _ _ ho
      exact ⟨b, v, by rw [mA hm]; exact g1, g2, by rw [e2]; exact no g3⟩
    · rw [e] at hu ⊢
      rw [fndR_map _ (killL_un _), fndR_offA] at hu ⊢
      by_cases hA : id ∈ ρ2.map (·.2)
      · rw [if_pos hA, killL_un] at hu; exact (hu rfl).elim
      · rw [if_neg hA] at hu ⊢
        have hiv : ivN id ρ2 = none := by
         cases hq : ivN id ρ2 with
         | none => rfl
         | some c => exact (hA (List.mem_map.2 ⟨_, ivN_mem hq, rfl⟩)).elim
        rw [fN hiv] at ho
        have hun : fndR id off st.rf ≠ .un := fun e3 => by rw [e3, killL_un] at hu; exact hu rfl
        obtain ⟨b, v, g1, g2, g3⟩ := r.rfs id off hun _ _ _ ho
        refine ⟨b, v, by rw [mN hiv]; exact g1, ?_, ko g3⟩
        rw [World.cell?_of_block (w := w) (same (r.sep id _ b ho (by rw [g1]; rfl)).2.2 (hother (fun c hc => by rw [ivN_of hv (hsub _ hc)] at hiv; cases hiv) ho (by rw [g1]; rfl)))]
        exact g2
 refine ⟨m3, fun b => ok b ∨ ok2 b, rA.put ?_ d, fun b hb => hb.elim .inl (fun hb => (hok2 b hb).imp id fun h => (hfr h).1), fun b hb => .inl hb, fun b hb => hb.elim .inl (hok2 b)⟩
 -- the results
 show RepA w' _ m3 (hpB ρ2 (S.out.mk' y).hp ++ delA (ρ2.map (·.2)) st.hp) _ _
 rw [← hhp2]
 have res : ∀ (k i : Nat), i + k = us.length → (resS ρ2 (S.out.mk' y) k i).length = k ∧ ∀ (j : Nat) (x : AV0), (resS ρ2 (S.out.mk' y) k i)[j]? = some x → ∃ u, us[i + j]? = some u ∧ RepA0 w' (fun b => ok b ∨ ok2 b) m3 hp2 x u := by
  intro k
  induction k with
  | zero => intro i _; exact ⟨rfl, fun j x hx => by simp [resS] at hx⟩
  | succ k ih =>
   intro i hi
   obtain ⟨h1, h2⟩ := ih (i + 1) (by omega)
   refine ⟨by simp [resS, h1], fun j x hx => ?_⟩
   cases j with
   | zero =>
    simp only [resS, List.getElem?_cons_zero, Option.some.injEq] at hx
    subst hx
    have hlt : i < us.length := by omega
    refine ⟨us[i], by simp [hlt], ?_⟩
    have he := r2.env i
    have hg : (actOf us).tmps.getD i undef = us[i] := by simp [actOf, Array.getD_eq_getD_getElem?, hlt]
    rw [hg] at he
    revert he
    show RepA w' ok2 m2 (S.out.mk' y).hp (fndE i (S.out.mk' y).env) _ → _
    cases fndE i (S.out.mk' y).env with
    | v q => exact fun h => no h
    | tup q => exact fun _ => trivial
   | succ j =>
    simp only [resS, List.getElem?_cons_succ] at hx
    obtain ⟨u, hu, hr⟩ := h2 j x hx
    exact ⟨u, by rw [show i + (j + 1) = i + 1 + j by omega]; exact hu, hr⟩
 obtain ⟨hl, hr⟩ := res S.out.n 0 (by rw [hus]; omega)
 generalize resS ρ2 (S.out.mk' y) S.out.n 0 = l at hl hr
 rw [← hus] at hl
 match l, us, hl with
 | [x], [u], _ =>
  obtain ⟨u', hu', hx⟩ := hr 0 x rfl
  simp at hu'
  subst hu'
  exact hx
 | [], [], _ => exact ⟨[], rfl, rfl, fun i x hx => by simp at hx⟩
 | x :: x2 :: l, u :: u2 :: us, hl => exact ⟨u :: u2 :: us, rfl, by simpa using hl.symm, fun i x hx => by
     obtain ⟨u', hu', hx'⟩ := hr i x hx
     exact ⟨u', by simpa using hu', hx'⟩⟩
theorem cAV_row (i : Nat) : cAV (cRow i) = .row i := by
 unfold cAV cRow cId
 rw [nbeq, nbeq, decide_eq_false (by omega), decide_eq_true (by omega)]
 simp only [cond_false, cond_true]
 congr 1; omega
theorem cAV_ptr (i : Nat) : cAV (cPtr i) = .ptr i 0 := by
 unfold cAV cPtr cId
 rw [nbeq, nbeq, decide_eq_false (by omega), decide_eq_false (by omega)]
 simp only [cond_false]
 congr 1; omega
theorem cast?_out {t t' : Ty} {x : t.D} {y : t'.D} (h : cast? t t' x = some y) : ∃ e : t = t', y = e ▸ x := by
 unfold cast? at h
 split at h
 · rename_i e; exact ⟨e, (Option.some.inj h).symm⟩
 · cases h
theorem SkO.rd_out {o : SkO} {b : Option Ob} {x : o.ty.D} (h : o.rd b = some x) : b = some (o.mk x) := by
 unfold SkO.rd at h
 split at h
 · rename_i T t T' t' y
   cases hb : Nat.beq T T' with
   | false => rw [hb] at h; cases h
   | true =>
    rw [hb, cond_true] at h
    have hT := Nat.eq_of_beq_eq_true hb
    subst hT
    obtain ⟨e, h⟩ := cast?_out h
    subst e; subst h
    rfl
 · rename_i e t e' t' y
   obtain ⟨e, h⟩ := cast?_out h
   cases e; subst h
   rfl
 · cases h
theorem hpRd_out {hp : List (Nat × Ob)} : ∀ {l : List (Nat × SkO)} {y : hpD l}, hpRd hp l = some y → ∀ i o, fnd i (hpMk l y) = some o → fnd i hp = some o
 | [], _, _, i, o, h => by simp [hpMk, fnd] at h
 | (j, q) :: r, y, hr, i, o, h => by
  unfold hpRd at hr
  split at hr
  · rename_i x hx
    split at hr
    · rename_i z hz
      cases hr
      simp only [hpMk, fnd, nbeq] at h
      by_cases e : j = i
      · subst e
        simp at h
        rw [← h]; exact SkO.rd_out hx
      · simp [e] at h
        exact hpRd_out hz i o h
    · cases hr
  · cases hr
theorem envRd_out {R : Type} {z : R} {e : List (Nat × AV)} : ∀ {l : List (Nat × SkV)} {x : envD R l}, envRd z e l = some x → (envMk l x).2 = z ∧ ∀ i, fndE i (envMk l x).1 = .v .un ∨ fndE i (envMk l x).1 = fndE i e := by
 intro l
 induction l with
 | nil => intro x h; cases h; exact ⟨rfl, fun i => .inl rfl⟩
 | cons k r ih =>
  intro x h
  obtain ⟨s, k⟩ := k
  have step : ∀ {l1 : List (Nat × AV)} {a1 : AV}, a1 = fndE s e → (∀ i, fndE i l1 = .v .un ∨ fndE i l1 = fndE i e) → ∀ i, fndE i ((s, a1) :: l1) = .v .un ∨ fndE i ((s, a1) :: l1) = fndE i e := by
   intro l1 a1 h1 h2 i
   simp only [fndE, nbeq]
   by_cases hs : s = i
   · subst hs; simp only [decide_true, cond_true]; exact .inr h1
   · simp only [hs, decide_false, cond_false]; exact h2 i
  cases k with
  | row i =>
   have h : (bif vRow i (fndE s e) then envRd z e r else none) = some x := h
   cases hb : vRow i (fndE s e) with
   | false => rw [hb] at h; cases h
   | true =>
    rw [hb, cond_true] at h
    obtain ⟨h1, h3⟩ := ih h
    refine ⟨h1, step ?_ h3⟩
    unfold vRow at hb
    split at hb
    · rename_i j hj; rw [hj, Nat.eq_of_beq_eq_true hb]
    · cases hb
  | ptr i o =>
   have h : (bif vPtr i o (fndE s e) then envRd z e r else none) = some x := h
   cases hb : vPtr i o (fndE s e) with
   | false => rw [hb] at h; cases h
   | true =>
    rw [hb, cond_true] at h
    obtain ⟨h1, h3⟩ := ih h
    refine ⟨h1, step ?_ h3⟩
    unfold vPtr at hb
    split at hb
    · rename_i j p hj
      simp only [Bool.and_eq_true] at hb
      rw [hj, Nat.eq_of_beq_eq_true hb.1, Nat.eq_of_beq_eq_true hb.2]
    · cases hb
  | fn f =>
   have h : (bif vFn f (fndE s e) then envRd z e r else none) = some x := h
   cases hb : vFn f (fndE s e) with
   | false => rw [hb] at h; cases h
   | true =>
    rw [hb, cond_true] at h
    obtain ⟨h1, h3⟩ := ih h
    refine ⟨h1, step ?_ h3⟩
    unfold vFn at hb
    split at hb
    · rename_i g hj; rw [hj, show f = g from Nat.eq_of_beq_eq_true hb]
    · cases hb
  | var t =>
   have h : (match vTv t (fndE s e) with | some y => (match envRd z e r with | some q => some (y, q) | none => none) | none => none) = some x := h
   cases hc : vTv t (fndE s e) with
   | none => rw [hc] at h; cases h
   | some u =>
    rw [hc] at h
    simp only at h
    cases hq : envRd z e r with
    | none => rw [hq] at h; cases h
    | some q =>
     rw [hq] at h
     cases h
     obtain ⟨h1, h3⟩ := ih hq
     refine ⟨h1, step ?_ h3⟩
     unfold vTv at hc
     split at hc
     · rename_i t' y hj
       obtain ⟨e', hu⟩ := cast?_out hc
       subst e'; subst hu
       rw [hj]
     · cases hc
  | rvar t =>
   have h : (match vRp t (fndE s e) with | some y => (match envRd z e r with | some q => some (y, q) | none => none) | none => none) = some x := h
   cases hc : vRp t (fndE s e) with
   | none => rw [hc] at h; cases h
   | some u =>
    rw [hc] at h
    simp only at h
    cases hq : envRd z e r with
    | none => rw [hq] at h; cases h
    | some q =>
     rw [hq] at h
     cases h
     obtain ⟨h1, h3⟩ := ih hq
     refine ⟨h1, step ?_ h3⟩
     unfold vRp at hc
     split at hc
     · rename_i t' y hj
       obtain ⟨e', hu⟩ := cast?_out hc
       subst e'; subst hu
       rw [hj]
     · cases hc
  | wbx i o n a t =>
   have h : (bif vWbx i o n a t (fndE s e) then envRd z e r else none) = some x := h
   cases hb : vWbx i o n a t (fndE s e) with
   | false => rw [hb] at h; cases h
   | true =>
    rw [hb, cond_true] at h
    obtain ⟨h1, h3⟩ := ih h
    refine ⟨h1, step ?_ h3⟩
    unfold vWbx at hb
    split at hb
    · rename_i j p m f u hj
      simp only [Bool.and_eq_true, decide_eq_true_eq] at hb
      obtain ⟨b1, b2, b3, b4, b5⟩ := hb
      rw [hj, Nat.eq_of_beq_eq_true b1, Nat.eq_of_beq_eq_true b2, Nat.eq_of_beq_eq_true b3, show a = f from Nat.eq_of_beq_eq_true b4, b5]
    · cases hb
  | nilp =>
   have h : (bif vNil (fndE s e) then envRd z e r else none) = some x := h
   cases hb : vNil (fndE s e) with
   | false => rw [hb] at h; cases h
   | true =>
    rw [hb, cond_true] at h
    obtain ⟨h1, h3⟩ := ih h
    refine ⟨h1, step ?_ h3⟩
    unfold vNil at hb
    split at hb
    · rename_i hj; rw [hj]
    · cases hb
  | sub i =>
   have h : (match vSub i (fndE s e) with | some y => (match envRd z e r with | some q => some (y, q) | none => none) | none => none) = some x := h
   cases hc : vSub i (fndE s e) with
   | none => rw [hc] at h; cases h
   | some u =>
    rw [hc] at h
    simp only at h
    cases hq : envRd z e r with
    | none => rw [hq] at h; cases h
    | some q =>
     rw [hq] at h
     cases h
     obtain ⟨h1, h3⟩ := ih hq
     refine ⟨h1, step ?_ h3⟩
     unfold vSub at hc
     split at hc
     · rename_i j' lo n hj
       cases hb : Nat.beq i j' with
       | false => rw [hb] at hc; cases hc
       | true => rw [hb] at hc; cases hc; rw [hj, Nat.eq_of_beq_eq_true hb]
     · cases hc
  | clo f t =>
   have h : (match vClo f t (fndE s e) with | some y => (match envRd z e r with | some q => some (y, q) | none => none) | none => none) = some x := h
   cases hc : vClo f t (fndE s e) with
   | none => rw [hc] at h; cases h
   | some u =>
    rw [hc] at h
    simp only at h
    cases hq : envRd z e r with
    | none => rw [hq] at h; cases h
    | some q =>
     rw [hq] at h
     cases h
     obtain ⟨h1, h3⟩ := ih hq
     refine ⟨h1, step ?_ h3⟩
     unfold vClo at hc
     split at hc
     · rename_i f' t' y hj
       cases hb : Nat.beq f f' with
       | false => rw [hb] at hc; cases hc
       | true =>
        rw [hb, cond_true] at hc
        obtain ⟨e', hu⟩ := cast?_out hc
        subst e'; subst hu
        rw [hj, show f = f' from Nat.eq_of_beq_eq_true hb]
     · cases hc
theorem isC_eq {c : Nat} {a : AV0} (h : isC c a = true) : a = cAV c := by
 unfold isC at h
 split at h
 · rw [Nat.eq_of_beq_eq_true h]; rfl
 · rw [Nat.eq_of_beq_eq_true h, cAV_row]
 · rw [Nat.eq_of_beq_eq_true h, cAV_ptr]
 · cases h
theorem rfOk_out {r : List ((Nat × Nat) × AV0)} : ∀ {l : List ((Nat × Nat) × Nat)}, rfOk r l = true → ∀ i o, fndR i o (rfMk l) = .un ∨ fndR i o (rfMk l) = fndR i o r
 | [], _, i, o => .inl rfl
 | p :: l, h, i, o => by
  simp only [rfOk] at h
  cases hc : isC p.2 (fndR p.1.1 p.1.2 r) with
  | false => rw [hc] at h; cases h
  | true =>
   rw [hc, cond_true] at h
   have ih := rfOk_out h i o
   simp only [rfMk, fndR, nbeq]
   by_cases e1 : p.1.1 = i
   · by_cases e2 : p.1.2 = o
     · subst e1 e2
       simp only [decide_true, cond_true]
       exact .inr (isC_eq hc).symm
     · simp only [e1, e2, decide_true, decide_false, cond_true, cond_false]; exact ih
   · simp only [e1, decide_false, cond_false]; exact ih
theorem Weak.rel {st1 : St} (h : Rel w0 m ok st a w) (hw : Weak st1 st) : Rel w0 m ok st1 a w := by
 have key0 : ∀ {x : AV0} {v : Value}, RepA0 w ok m st.hp x v → RepA0 w ok m st1.hp x v := by
  intro x v hx
  cases x with
  | tv _ _ => exact hx
  | rptr _ _ => exact hx
  | fn _ => exact hx
  | own _ _ _ => trivial
  | un => trivial
  | nilp => exact hx
  | sub id lo n => exact fun e t xs hf => hx e t xs (hw.hp _ _ hf)
  | str t x rs => exact RepA0.hp (a := .str t x rs) (fun id _ => ⟨rfl, fun o ho => ⟨o, hw.hp _ _ ho, fun e t xs e1 => ⟨xs, e1⟩, fun T t x e1 => ⟨x, e1⟩⟩⟩) hx
  | row id => exact fun e t xs hf => hx e t xs (hw.hp _ _ hf)
  | ptr id off => exact fun e t xs hf => hx e t xs (hw.hp _ _ hf)
  | elt id i off => exact fun e t xs hf => hx e t xs (hw.hp _ _ hf)
  | bel id o i f n t => exact fun T bt x hf => hx T bt x (hw.hp _ _ hf)
  | wbx id o n e t => exact fun T bt x hf => hx T bt x (hw.hp _ _ hf)
  | clo _ _ _ => exact hx
  | glb _ => exact hx
  | gel _ _ => exact hx
 refine ⟨h.defers, by rw [h.size, hw.len], fun i => ?_, fun id o hf => h.ob id o (hw.hp _ _ hf), fun id o b hf => h.sep id o b (hw.hp _ _ hf), fun i i' o o' b h1 h2 => h.inj i i' o o' b (hw.hp _ _ h1) (hw.hp _ _ h2), h.okb, h.keep, fun id v hv => ⟨by rw [hw.len]; exact (h.pins id v hv).1, fun o2 ho => (h.pins id v hv).2 _ (hw.hp _ _ ho)⟩, fun id off hu T t x hf => by
  rcases hw.rf id off with e | e
  · exact (hu e).elim
  · rw [e] at hu ⊢
    obtain ⟨b, v, hm, hc, hr⟩ := h.rfs id off hu T t x (hw.hp _ _ hf)
    exact ⟨b, v, hm, hc, key0 hr⟩⟩
 rcases hw.env i with e | e
 · rw [e]; trivial
 · rw [e]
   have := h.env i
   revert this
   cases st.get i with
   | v x => exact key0
   | tup l => exact fun ⟨us, e, hl, hi⟩ => ⟨us, e, hl, fun i x hx => let ⟨u, hu, hr⟩ := hi i x hx; ⟨u, hu, key0 hr⟩⟩
theorem Sk.rd_weak {k : Sk} {st : St} {x : k.D} (hfz : k.fz = []) (h : k.rd st = some x) : Weak (k.mk' x) st := by
 unfold Sk.rd at h
 rw [hfz] at h
 have hst : freezes st [] = st := rfl
 rw [hst] at h
 split at h
 · rename_i z hz
   cases hn : Nat.beq k.n st.n with
   | false => rw [hn] at h; cases h
   | true =>
    rw [hn, cond_true] at h
    cases hrf : rfOk st.rf k.rf with
    | false => rw [hrf] at h; cases h
    | true =>
    rw [hrf, cond_true] at h
    obtain ⟨h1, h3⟩ := envRd_out h
    refine ⟨?_, h3, fun i o ho => ?_, rfOk_out hrf⟩
    · show k.n = st.n
      exact Nat.eq_of_beq_eq_true hn
    have : fnd i (hpMk k.hp (envMk k.env x).2) = some o := ho
    rw [h1] at this
    exact hpRd_out hz i o this
 · cases h
theorem Sk.rd_has {k : Sk} {st : St} {x : k.D} (hfz : k.fz = []) (h : k.rd st = some x) : ∀ c q, lkO c k.hp = some q → ∃ z, fnd c st.hp = some (q.mk z) := by
 intro c q hq
 obtain ⟨z, hz⟩ := hpMk_lk (x := (envMk k.env x).2) hq
 exact ⟨z, (Sk.rd_weak hfz h).hp c _ hz⟩
end
end Go.Iv
