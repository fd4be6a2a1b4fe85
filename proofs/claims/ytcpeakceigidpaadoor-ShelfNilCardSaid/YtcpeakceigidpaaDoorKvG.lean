/- A region whose order is open; code; functions. -/
import Derived.Test.YtcpeakceigidpaaDoorKvX
set_option linter.all false
namespace Go.Iv
open Go.RowKit
variable [GL]
section
variable {P : Program} {cx : Cx} {w0 : Bas} {w : World} {ok0 ok : Nat → Prop} {m : Nat → Value} {st : St} {a : Act} {o : Oper} {K : St → Prop} {Q : Exit → Act → World → Prop}
theorem aops_drew (hr : RelE w0 ok0 st a w) : RelE w0 ok0 st a w.drew := by
 obtain ⟨m, ok, r, f⟩ := hr
 exact ⟨m, ok, r.world (fun _ _ => rfl) (fun _ _ _ _ _ => rfl) (Nat.le_refl _) r.keep.drew (fun _ h => h) r.okb (fun id ob b ho hb => (r.sep id ob b ho hb).1) (fun _ _ _ n => ⟨n, rfl⟩), f⟩
def AE.is : AE → Exit → Prop
 | .normal, .normal => True
 | .exit i, .exit j => i = j
 | .ret, .ret => True
 | _, _ => False
theorem freezes_ent (l : List Nat) : Ent st (freezes st l) := by
 intro w0 ok0 a w ⟨m, ok, r, f⟩
 obtain ⟨ok', h, r'⟩ := Rel.freezes l r
 exact ⟨m, ok', r', fun b hb => (h.2.1 b hb).elim (f b) .inr⟩
theorem aops1_fix (h : CxOk P cx) {ops : Array Oper} (hk : aops cx ops K [o] st) : ∃ cx1 s', CxOk P cx1 ∧ K s' ∧ ∀ K' : St → Prop, K' s' → aops cx1 ops K' [o] st := by
 have run : ∀ {st' : St}, aop cx o (aops cx ops K []) st' → ∃ cx1 s', CxOk P cx1 ∧ K s' ∧ ∀ K' : St → Prop, K' s' → aop cx1 o (aops cx1 ops K' []) st' := fun hk => by
  obtain ⟨cx1, s', h1, h2, h3⟩ := aop_fix h hk
  exact ⟨cx1, s', h1, aops_nil.mp h2, fun K' hK => h3 _ (aops_nil.mpr hK)⟩
 unfold aops at hk
 rw [frc_eq] at hk
 cases hg : o.guard with
 | none =>
  rw [hg] at hk
  obtain ⟨cx1, s', h1, h2, h3⟩ := run hk
  refine ⟨cx1, s', h1, h2, fun K' hK => ?_⟩
  unfold aops
  rw [frc_eq, hg]
  exact h3 K' hK
 | some jw =>
  obtain ⟨j, want⟩ := jw
  rw [hg] at hk
  simp only at hk
  split at hk
  · rename_i t ht
    split at hk
    · rename_i b hb
      have go : ∀ {X : ∀ (cx : Cx) (K : St → Prop), Prop}, (∃ cx1 s', CxOk P cx1 ∧ K s' ∧ ∀ K' : St → Prop, K' s' → X cx1 K') → (∀ cx1 K', X cx1 K' → aops cx1 ops K' [o] st) → ∃ cx1 s', CxOk P cx1 ∧ K s' ∧ ∀ K' : St → Prop, K' s' → aops cx1 ops K' [o] st :=
       fun ⟨cx1, s', h1, h2, h3⟩ hX => ⟨cx1, s', h1, h2, fun K' hK => hX cx1 K' (h3 K' hK)⟩
      have skip : ∀ {st' : St}, aops cx ops K [] st' → ∃ cx1 s', CxOk P cx1 ∧ K s' ∧ ∀ K' : St → Prop, K' s' → aops cx1 ops K' [] st' := fun hk => ⟨cx, _, h, aops_nil.mp hk, fun K' hK => aops_nil.mpr hK⟩
      cases want with
      | true =>
       rw [cond_true] at hk
       rcases br_cases hk with ⟨e, hk⟩ | ⟨e, hk⟩
       · subst e
         refine go (run hk) fun cx1 K' hX => ?_
         unfold aops; rw [frc_eq, hg]; simp only [ht, hb, cond_true]; exact hX
       · subst e
         refine go (skip hk) fun cx1 K' hX => ?_
         unfold aops; rw [frc_eq, hg]; simp only [ht, hb, cond_true]; exact hX
      | false =>
       rw [cond_false] at hk
       rcases br_cases hk with ⟨e, hk⟩ | ⟨e, hk⟩
       · subst e
         refine go (skip hk) fun cx1 K' hX => ?_
         unfold aops; rw [frc_eq, hg]; simp only [ht, hb, cond_false]; exact hX
       · subst e
         refine go (run hk) fun cx1 K' hX => ?_
         unfold aops; rw [frc_eq, hg]; simp only [ht, hb, cond_false]; exact hX
    · rename_i hb
      refine ⟨cx, _, h, aops_nil.mp hk, fun K' hK => ?_⟩
      unfold aops
      rw [frc_eq, hg]
      simp only [ht, hb]
      exact aops_nil.mpr hK
    · exact hk.elim
  · exact hk.elim
theorem aops_fix (h : CxOk P cx) {ops : Array Oper} : ∀ (l : List Oper) (st : St), aops cx ops K l st → ∃ s', K s' ∧
 ∀ (w0 : Bas) (ok0 : Nat → Prop) (a : Act) (w : World) (Q : Exit → Act → World → Prop), (∀ a w, RelE w0 ok0 s' a w → Q .normal a w) → RelE w0 ok0 st a w → wpList P ops Q l a w
 | [], st, hk => ⟨st, aops_nil.mp hk, fun w0 ok0 a w Q hQ hr => hQ a w hr⟩
 | o :: l, st, hk => by
  have run : ∀ {st' : St}, aop cx o (aops cx ops K l) st' → ∃ s', K s' ∧ ∀ (w0 : Bas) (ok0 : Nat → Prop) (a : Act) (w : World) (Q : Exit → Act → World → Prop), (∀ a w, RelE w0 ok0 s' a w → Q .normal a w) → RelE w0 ok0 st' a w → o.wp P a w (wpList P ops Q l) Q := by
   intro st' hk
   obtain ⟨s1, h1, h2⟩ := aop_run h hk
   obtain ⟨s', h3, h4⟩ := aops_fix h l s1 h1
   exact ⟨s', h3, fun w0 ok0 a w Q hQ hr => Oper.wp_mono' (fun a' w' hr' => h4 w0 ok0 a' w' Q hQ hr') (h2 w0 ok0 a w _ hr)⟩
  have skip : ∀ {st' : St}, aops cx ops K l (st'.put o.dst (.tup [])) → ∃ s', K s' ∧ ∀ (w0 : Bas) (ok0 : Nat → Prop) (a : Act) (w : World) (Q : Exit → Act → World → Prop), (∀ a w, RelE w0 ok0 s' a w → Q .normal a w) → RelE w0 ok0 st' a w → wpList P ops Q l (a.put o.dst undef) w := by
   intro st' hk
   obtain ⟨s', h3, h4⟩ := aops_fix h l _ hk
   exact ⟨s', h3, fun w0 ok0 a w Q hQ ⟨m, ok, r, f⟩ => h4 w0 ok0 _ w Q hQ ⟨m, ok, r.put (x := .tup []) rep_skip o.dst, f⟩⟩
  unfold aops at hk
  rw [frc_eq] at hk
  cases hg : o.guard with
  | none =>
   rw [hg] at hk
   obtain ⟨s', h1, h2⟩ := run hk
   refine ⟨s', h1, fun w0 ok0 a w Q hQ hr => ?_⟩
   unfold wpList
   rw [if_pos (by simp [Region.wanted, hg])]
   exact .inl (h2 w0 ok0 a w Q hQ hr)
  | some jw =>
   obtain ⟨j, want⟩ := jw
   rw [hg] at hk
   simp only at hk
   split at hk
   · rename_i t ht
     split at hk
     · rename_i b hb
       have yes : b = want → aop cx o (aops cx ops K l) (st.put (some t) (.v (.tv .bool b))) → ∃ s', K s' ∧ ∀ (w0 : Bas) (ok0 : Nat → Prop) (a : Act) (w : World) (Q : Exit → Act → World → Prop), (∀ a w, RelE w0 ok0 s' a w → Q .normal a w) → RelE w0 ok0 st a w → wpList P ops Q (o :: l) a w := by
        intro e hk
        rw [put_same (by simp) hb] at hk
        obtain ⟨s', h1, h2⟩ := run hk
        refine ⟨s', h1, fun w0 ok0 a w Q hQ hr => ?_⟩
        unfold wpList
        have hr' := hr
        obtain ⟨m, ok, r, f⟩ := hr'
        rw [if_pos (by simp [Region.wanted, hg, yielded_bool r ht hb, e])]
        exact .inl (h2 w0 ok0 a w Q hQ hr)
       have no : b ≠ want → aops cx ops K l ((st.put (some t) (.v (.tv .bool b))).put o.dst (.tup [])) → ∃ s', K s' ∧ ∀ (w0 : Bas) (ok0 : Nat → Prop) (a : Act) (w : World) (Q : Exit → Act → World → Prop), (∀ a w, RelE w0 ok0 s' a w → Q .normal a w) → RelE w0 ok0 st a w → wpList P ops Q (o :: l) a w := by
        intro e hk
        rw [put_same (by simp) hb] at hk
        obtain ⟨s', h1, h2⟩ := skip hk
        refine ⟨s', h1, fun w0 ok0 a w Q hQ hr => ?_⟩
        unfold wpList
        have hr' := hr
        obtain ⟨m, ok, r, f⟩ := hr'
        rw [if_neg (by simp [Region.wanted, hg, yielded_bool r ht hb, e])]
        exact h2 w0 ok0 a w Q hQ hr
       cases want with
       | true =>
        rw [cond_true] at hk
        rcases br_cases hk with ⟨e, hk⟩ | ⟨e, hk⟩
        · rw [← e] at hk; exact yes e hk
        · rw [← e] at hk; exact no (by rw [e]; simp) hk
       | false =>
        rw [cond_false] at hk
        rcases br_cases hk with ⟨e, hk⟩ | ⟨e, hk⟩
        · rw [← e] at hk; exact no (by rw [e]; simp) hk
        · rw [← e] at hk; exact yes e hk
     · rename_i hb
       obtain ⟨s', h1, h2⟩ := skip hk
       refine ⟨s', h1, fun w0 ok0 a w Q hQ hr => ?_⟩
       unfold wpList
       have hr' := hr
       obtain ⟨m, ok, r, f⟩ := hr'
       rw [if_neg (by simp [Region.wanted, hg, yielded_skip r ht hb])]
       exact h2 w0 ok0 a w Q hQ hr
     · exact hk.elim
   · exact hk.elim
theorem setL_append : ∀ (J : List Nat) {l : List Bool} {s : Nat}, setL l (J ++ [s]) = (setL l J).set s true
 | [], _, _ => rfl
 | i :: r, l, s => setL_append r (l := l.set i true)
theorem sameA_out {x y : AV0} {X : Prop} (h : sameA x y X) : (x = .un ∨ x = y) ∧ X := by
 unfold sameA at h
 split at h
 · split at h
   · rename_i hc
     obtain ⟨e, h⟩ := h
     unfold cast? at hc
     split at hc
     · rename_i ht; subst ht; cases hc; subst e; exact ⟨.inr rfl, h⟩
     · cases hc
   · exact h.elim
 · split at h
   · rename_i hc
     obtain ⟨e, h⟩ := h
     unfold cast? at hc
     split at hc
     · rename_i ht; subst ht; cases hc; subst e; exact ⟨.inr rfl, h⟩
     · cases hc
   · exact h.elim
 · obtain ⟨e, h'⟩ := stat_nat h; subst e; exact ⟨.inr rfl, h'⟩
 · obtain ⟨e, h'⟩ := stat_out h
   simp only [Bool.and_eq_true] at e
   obtain ⟨e1, e2⟩ := e
   cases Nat.eq_of_beq_eq_true e1; cases Nat.eq_of_beq_eq_true e2
   exact ⟨.inr rfl, h'⟩
 · obtain ⟨e, h'⟩ := stat_out h
   simp only [Bool.and_eq_true] at e
   obtain ⟨⟨⟨⟨e1, e2⟩, e3⟩, e4⟩, e5⟩ := e
   cases Nat.eq_of_beq_eq_true e1; cases Nat.eq_of_beq_eq_true e2; cases Nat.eq_of_beq_eq_true e3; cases Nat.eq_of_beq_eq_true e4; cases Ty.beq_eq e5
   exact ⟨.inr rfl, h'⟩
 · obtain ⟨e, h'⟩ := stat_nat h; cases e; exact ⟨.inr rfl, h'⟩
 · exact ⟨.inr rfl, h⟩
 · exact ⟨.inl rfl, h⟩
 · exact h.elim
theorem sameO_out {x : Ob} {y : Option Ob} {X : Prop} (h : sameO x y X) : y = some x ∧ X := by
 unfold sameO at h
 split at h
 · obtain ⟨e0, h1⟩ := stat_nat h
   clear h
   split at h1
   · rename_i hc
     obtain ⟨e, h2⟩ := h1
     unfold cast? at hc
     split at hc
     · rename_i ht; subst ht; cases hc; subst e; subst e0; exact ⟨rfl, h2⟩
     · cases hc
   · exact h1.elim
 · obtain ⟨e0, h1⟩ := stat_nat h
   clear h
   split at h1
   · rename_i hc
     obtain ⟨e, h2⟩ := h1
     unfold cast? at hc
     split at hc
     · rename_i ht; cases ht; cases hc; subst e; subst e0; exact ⟨rfl, h2⟩
     · cases hc
   · exact h1.elim
 · exact h.elim
theorem sameE_out {st : St} : ∀ {l : List (Nat × AV)} {X : Prop}, sameE st l X → (∀ i, fndE i l = .v .un ∨ fndE i l = fndE i st.env) ∧ X
 | [], X, h => ⟨fun i => .inl rfl, h⟩
 | (j, .v a) :: r, X, h => by
  unfold sameE at h
  split at h
  · rename_i b hb
    obtain ⟨h1, h⟩ := sameA_out h
    obtain ⟨h2, h⟩ := sameE_out h
    refine ⟨fun i => ?_, h⟩
    simp only [fndE, nbeq]
    by_cases e : j = i
    · subst e
      simp only [decide_true, cond_true]
      rcases h1 with rfl | rfl
      · exact .inl rfl
      · exact .inr hb.symm
    · simp only [e, decide_false, cond_false]; exact h2 i
  · exact h.elim
 | (_, .tup _) :: _, X, h => h.elim
theorem sameH_out {st : St} : ∀ {l : List (Nat × Ob)} {X : Prop}, sameH st l X → (∀ i o, fnd i l = some o → fnd i st.hp = some o) ∧ X
 | [], X, h => ⟨fun i o ho => by simp [fnd] at ho, h⟩
 | (j, p) :: r, X, h => by
  unfold sameH at h
  obtain ⟨h1, h⟩ := sameO_out h
  obtain ⟨h2, h⟩ := sameH_out h
  refine ⟨fun i o ho => ?_, h⟩
  simp only [fnd, nbeq] at ho
  by_cases e : j = i
  · subst e
    simp only [decide_true, cond_true] at ho
    cases ho; exact h1
  · simp only [e, decide_false, cond_false] at ho; exact h2 i o ho
theorem sameR_out {st : St} : ∀ {l : List ((Nat × Nat) × AV0)} {X : Prop}, sameR st l X → (∀ i o, fndR i o l = .un ∨ fndR i o l = fndR i o st.rf) ∧ X
 | [], X, h => ⟨fun i o => .inl rfl, h⟩
 | ((j, q), v) :: r, X, h => by
  unfold sameR at h
  obtain ⟨h1, h⟩ := sameA_out h
  obtain ⟨h2, h⟩ := sameR_out h
  refine ⟨fun i o => ?_, h⟩
  simp only [fndR, nbeq]
  by_cases e : j = i
  · subst e
    by_cases e2 : q = o
    · subst e2; simp only [decide_true, cond_true]; exact h1
    · simp only [e2, decide_true, cond_true, decide_false, cond_false]; exact h2 j o
  · simp only [e, decide_false, cond_false]; exact h2 i o
theorem sameS_weak {z st : St} (h : sameS z st) : Weak z st := by
 obtain ⟨h1, h⟩ := stat_nat h
 obtain ⟨h2, h⟩ := sameE_out h
 obtain ⟨h3, h⟩ := sameH_out h
 exact ⟨h1, h2, h3, (sameR_out h).1⟩
theorem beqB_eq : ∀ {l l' : List Bool}, beqB l l' = true → l = l'
 | [], [], _ => rfl
 | true :: r, true :: r', h => by rw [beqB_eq (l := r) (l' := r') h]
 | false :: r, false :: r', h => by rw [beqB_eq (l := r) (l' := r') h]
 | true :: _, false :: _, h => by cases h
 | false :: _, true :: _, h => by cases h
 | [], b :: _, h => by cases b <;> cases h
 | b :: _, [], h => by cases b <;> cases h
theorem crun_out (h : CxOk P cx) {ops : Array Oper} : ∀ {c : List Nat} {st : St}, crun cx ops K c st → ∃ z, K z
 | [], st, hk => ⟨st, hk⟩
 | i :: r, st, hk => by
  unfold crun at hk
  split at hk
  · obtain ⟨_, s1, _, h2, _⟩ := aops1_fix h hk
    exact crun_out h h2
  · exact hk.elim
theorem ready_false {ops : Array Oper} {l : List Bool} {i : Nat} (hj : i ∈ readyL ops l) : l[i]? = some false := by
 unfold readyL at hj
 rw [List.mem_filter] at hj
 simp only [Bool.and_eq_true, Bool.not_eq_true'] at hj
 have := hj.2.1
 simp only [List.getD_eq_getElem?_getD] at this
 cases hx : l[i]? with
 | none => rw [hx] at this; simp at this
 | some b => rw [hx] at this; simp at this; rw [this]
theorem tre_run (h : CxOk P cx) {ops : Array Oper} {fin : List Bool} {X : St → Prop} {s1 : St} (hX : ∀ s, X s → Ent s s1) {w0 : Bas} {ok0 : Nat → Prop} {Q : Exit → Act → World → Prop}
 (hrest : ∀ (listed : Array Bool) (N : Nat) (a : Act) (w : World), listed.toList = fin → fin.count false ≤ N → RelE w0 ok0 s1 a w → wpAny P .any ops Q N listed a w) :
 ∀ (t : Tre) (top : Bool) (l : List Bool) (st : St), treOK ops fin top l t = true → trun cx ops X t st →
  (top = true → ∀ (listed : Array Bool) (N : Nat) (a : Act) (w : World), listed.toList = l → l.count false ≤ N → RelE w0 ok0 st a w → wpAny P .any ops Q N listed a w) ∧
  (∀ i ∈ treH t, ∀ (listed : Array Bool) (N : Nat) (a : Act) (w : World), listed.toList = l → l.count false ≤ N + 1 → RelE w0 ok0 st a w → wpOp P ops Q i (wpAny P .any ops Q N (listed.setIfInBounds i true)) a w) := by
 intro t
 induction t with
 | fin =>
  intro top l st hp hk
  refine ⟨fun _ listed N a w hl hN hr => ?_, fun i hi => by cases hi⟩
  have e := beqB_eq (show beqB l fin = true from by cases top <;> exact hp)
  subst e
  exact hrest listed N a w hl hN (hX _ hk _ _ _ _ hr)
 | non =>
  intro top l st hp hk
  refine ⟨fun ht => ?_, fun i hi => by cases hi⟩
  subst ht; cases hp
 | nd i sub more ihs ihm =>
  intro top l st hp hk
  simp only [treOK, Bool.and_eq_true] at hp
  obtain ⟨hall, hi, hsub, hmore⟩ := hp
  obtain ⟨hk1, hk2⟩ := hk
  have hi := inL_mem.1 hi
  have second : ∀ j ∈ treH (.nd i sub more), ∀ (listed : Array Bool) (N : Nat) (a : Act) (w : World), listed.toList = l → l.count false ≤ N + 1 → RelE w0 ok0 st a w → wpOp P ops Q j (wpAny P .any ops Q N (listed.setIfInBounds j true)) a w := by
   intro j hj listed N a w hl hN hr
   rcases List.mem_cons.1 hj with e | hj
   · subst e
     split at hk1
     · rename_i o ho
       refine aop1_sound h ho (K := trun cx ops X sub) (fun a' w' ⟨s, hs, hr'⟩ => ?_) hk1 hr
       have hcs := count_set (ready_false hi)
       exact (ihs true (l.set j true) s hsub hs).1 rfl _ N a' w' (by simp [hl]) (by omega) hr'
     · exact hk1.elim
   · exact (ihm false l st hmore hk2).2 j hj listed N a w hl hN hr
  refine ⟨fun ht listed N a w hl hN hr => ?_, second⟩
  subst ht
  have hcs := count_set (ready_false hi)
  cases N with
  | zero => omega
  | succ N =>
   refine ⟨fun hnil => ?_, fun j hj => ?_⟩
   · have : i ∈ Region.ready .any ops listed := readyL_spec.1 (by rw [hl]; exact hi)
     rw [hnil] at this; simp at this
   · have hj' := readyL_spec.2 hj
     rw [hl] at hj'
     have hj2 := List.all_eq_true.1 (show (readyL ops l).all (fun j => inL j (i :: treH more)) = true from by simpa using hall) j hj'
     exact second j (inL_mem.1 hj2) listed N a w hl (by omega) hr
theorem mv_out (h : CxOk P cx) {ops : Array Oper} {o : Oper} {x : Operand} (ho : o.op = .move x) {st : St} (hk : aops cx ops K [o] st) : ∃ s1, K s1 ∧
 ∀ (w0 : Bas) (ok0 : Nat → Prop) (a : Act) (w : World), RelE w0 ok0 st a w → ∃ v, Yields P ops o v a ∧ RelE w0 ok0 s1 (a.put o.dst v) w := by
 have yes : (∀ (w0 : Bas) (ok0 : Nat → Prop) (a : Act) (w : World), RelE w0 ok0 st a w → Region.wanted o (yielded ops a.tmps) = true) → aop cx o (aops cx ops K []) st → ∃ s1, K s1 ∧
  ∀ (w0 : Bas) (ok0 : Nat → Prop) (a : Act) (w : World), RelE w0 ok0 st a w → ∃ v, Yields P ops o v a ∧ RelE w0 ok0 s1 (a.put o.dst v) w := by
  intro hw hk
  unfold aop at hk
  rw [ho] at hk
  refine ⟨_, aops_nil.mp hk, fun w0 ok0 a w hr => ?_⟩
  have hr' := hr
  obtain ⟨m, ok, r, f⟩ := hr'
  exact ⟨a.eval x, .inl ⟨hw _ _ _ _ hr, fun w => by simp [execOp, ho]⟩, m, ok, r.put (r.op cx o.type x) o.dst, f⟩
 have no : (∀ (w0 : Bas) (ok0 : Nat → Prop) (a : Act) (w : World), RelE w0 ok0 st a w → Region.wanted o (yielded ops a.tmps) = false) → aops cx ops K [] (st.put o.dst (.tup [])) → ∃ s1, K s1 ∧
  ∀ (w0 : Bas) (ok0 : Nat → Prop) (a : Act) (w : World), RelE w0 ok0 st a w → ∃ v, Yields P ops o v a ∧ RelE w0 ok0 s1 (a.put o.dst v) w := by
  intro hw hk
  refine ⟨_, aops_nil.mp hk, fun w0 ok0 a w hr => ?_⟩
  have hr' := hr
  obtain ⟨m, ok, r, f⟩ := hr'
  exact ⟨undef, .inr ⟨hw _ _ _ _ hr, rfl⟩, m, ok, r.put (x := .tup []) rep_skip o.dst, f⟩
 unfold aops at hk
 rw [frc_eq] at hk
 cases hg : o.guard with
 | none =>
  rw [hg] at hk
  exact yes (fun w0 ok0 a w hr => by simp [Region.wanted, hg]) hk
 | some jw =>
  obtain ⟨j, want⟩ := jw
  rw [hg] at hk
  simp only at hk
  split at hk
  · rename_i t ht
    split at hk
    · rename_i b hb
      have hw : ∀ (w0 : Bas) (ok0 : Nat → Prop) (a : Act) (w : World), RelE w0 ok0 st a w → Region.wanted o (yielded ops a.tmps) = (b == want) := fun w0 ok0 a w ⟨m, ok, r, f⟩ => by
       simp [Region.wanted, hg, yielded_bool r ht hb]
      cases want with
      | true =>
       rw [cond_true] at hk
       rcases br_cases hk with ⟨e, hk2⟩ | ⟨e, hk2⟩
       · subst e; rw [put_same (by simp) hb] at hk2
         exact yes (fun w0 ok0 a w hr => by rw [hw _ _ _ _ hr]; rfl) hk2
       · subst e; rw [put_same (by simp) hb] at hk2
         exact no (fun w0 ok0 a w hr => by rw [hw _ _ _ _ hr]; rfl) hk2
      | false =>
       rw [cond_false] at hk
       rcases br_cases hk with ⟨e, hk2⟩ | ⟨e, hk2⟩
       · subst e; rw [put_same (by simp) hb] at hk2
         exact no (fun w0 ok0 a w hr => by rw [hw _ _ _ _ hr]; rfl) hk2
       · subst e; rw [put_same (by simp) hb] at hk2
         exact yes (fun w0 ok0 a w hr => by rw [hw _ _ _ _ hr]; rfl) hk2
    · rename_i hb
      exact no (fun w0 ok0 a w ⟨m, ok, r, f⟩ => by simp [Region.wanted, hg, yielded_skip r ht hb]) hk
    · exact hk.elim
  · exact hk.elim
theorem arun_run (h : CxOk P cx) {ops : Array Oper} (hns : Region.noSelect ops = true) : ∀ (p : List Stg) (l : List Bool) (st : St), l.length = ops.size → planOK ops l p = true → arun cx ops K p st → ∃ s', K s' ∧
 ∀ (w0 : Bas) (ok0 : Nat → Prop) (Q : Exit → Act → World → Prop), ((∀ a w, RelE w0 ok0 s' a w → Q .normal a w) ∧ ∀ c a a' w, Q (.panic c) a w → Q (.panic c) a' w) →
  ∀ (listed : Array Bool) (N : Nat) (a : Act) (w : World), listed.toList = l → l.count false ≤ N → RelE w0 ok0 st a w → wpAny P .any ops Q N listed a w := by
 intro p
 induction p with
 | nil =>
  intro l st hlen hp hk
  exact ⟨_, hk, fun w0 ok0 Q hQ listed N a w hl hN hr => wpAny_done (readyL_nil (by rw [hl]; exact List.isEmpty_iff.1 hp)) (hQ.1 a w hr) N⟩
 | cons s p ih =>
  intro l st hlen hp hk
  cases s with
  | any cr I =>
   simp only [planOK, Bool.and_eq_true] at hp
   obtain ⟨⟨⟨hok, hcr⟩, hfo⟩, hp⟩ := hp
   unfold arun at hk
   rw [frc_eq] at hk
   obtain ⟨hfr, hk⟩ := stat_out hk
   obtain ⟨s1, h1, h2⟩ := front_any h hlen hok hcr hfo hfr hk
   obtain ⟨s', hs', hrun⟩ := ih (setL l (I.map (·.1))) s1 (by rw [setL_len]; exact hlen) hp h1
   refine ⟨s', hs', fun w0 ok0 Q hQ listed N a w hl hN hr => ?_⟩
   exact h2 w0 ok0 Q (fun listed N a w hl hN hr => hrun w0 ok0 Q hQ listed N a w hl (by rw [← hl]; exact hN) hr) listed N a w hl hN hr
  | one i =>
   simp only [planOK, Bool.and_eq_true] at hp
   obtain ⟨hon, hp⟩ := hp
   have hrs : readyL ops l = [i] := by
    unfold isOne at hon
    split at hon
    · rename_i j hj; rw [hj, Nat.eq_of_beq_eq_true hon]
    · cases hon
   have hk : (match ops[i]? with | some o => aops cx ops (arun cx ops K p) [o] st | none => False) := hk
   split at hk
   · rename_i o ho
     obtain ⟨cx1, s1, h1, h2, h3⟩ := aops1_fix h hk
     obtain ⟨s', hs', hrun⟩ := ih (l.set i true) s1 (by simpa using hlen) hp h2
     refine ⟨s', hs', fun w0 ok0 Q hQ listed N a w hl hN hr => ?_⟩
     have hun : listed.toList[i]? = some false := by
      rw [hl]
      have hj : i ∈ readyL ops l := by rw [hrs]; simp
      unfold readyL at hj
      rw [List.mem_filter] at hj
      simp only [Bool.and_eq_true, Bool.not_eq_true'] at hj
      have := hj.2.1
      simp only [List.getD_eq_getElem?_getD] at this
      cases hx : l[i]? with
      | none => rw [hx] at this; simp at this
      | some b => rw [hx] at this; simp at this; rw [this]
     have hcs := count_set hun
     cases N with
     | zero => rw [hl] at hcs; omega
     | succ N =>
      refine ⟨fun hnil => ?_, fun j hj => ?_⟩
      · have : i ∈ Region.ready .any ops listed := readyL_spec.1 (by rw [hl, hrs]; simp)
        rw [hnil] at this; simp at this
      · have hj' := readyL_spec.2 hj
        rw [hl, hrs] at hj'
        simp at hj'
        subst hj'
        refine aop1_sound h1 ho (K := fun s => s = s1) (fun a' w' ⟨s, hs, hr'⟩ => ?_) (h3 (fun s => s = s1) rfl) hr
        subst hs
        exact hrun w0 ok0 Q hQ _ N _ w' (by simp [hl]) (by rw [hl] at hcs; omega) hr'
   · exact hk.elim
  | apg cr I s fb =>
   simp only [planOK, Bool.and_eq_true] at hp
   obtain ⟨⟨⟨⟨hok, hcr⟩, hfo⟩, ⟨⟨hok2, hcr2⟩, hfo2⟩⟩, hp⟩ := hp
   have hlen2 : ((setL l (I.map (·.1))).set s true).length = ops.size := by rw [List.length_set, setL_len]; exact hlen
   have hset : setL l ((I ++ [(s, fb)]).map (·.1)) = (setL l (I.map (·.1))).set s true := by
    simp only [List.map_append, List.map_cons, List.map_nil]; exact setL_append _
   have appP : ∀ {st : St}, stat (freshA ops st (s :: cr)) (pops cx ops cr (appE cx ops cr I s (arun cx ops K p)) I st) → ∃ s', K s' ∧
    ∀ (w0 : Bas) (ok0 : Nat → Prop) (Q : Exit → Act → World → Prop), ((∀ a w, RelE w0 ok0 s' a w → Q .normal a w) ∧ ∀ c a a' w, Q (.panic c) a w → Q (.panic c) a' w) →
     ∀ (listed : Array Bool) (N : Nat) (a : Act) (w : World), listed.toList = l → l.count false ≤ N → RelE w0 ok0 st a w → wpAny P .any ops Q N listed a w := by
    intro st hk
    obtain ⟨hfr, hk⟩ := stat_out hk
    obtain ⟨s1, h1, h2⟩ := front_app h hlen hok hcr hfo hfr hk
    obtain ⟨s', hs', hrun⟩ := ih ((setL l (I.map (·.1))).set s true) s1 hlen2 hp h1
    refine ⟨s', hs', fun w0 ok0 Q hQ listed N a w hl hN hr => ?_⟩
    exact h2 w0 ok0 Q (fun listed N a w hl hN hr => hrun w0 ok0 Q hQ listed N a w hl (by rw [← hl]; exact hN) hr) listed N a w hl hN hr
   have anyP : ∀ {st : St}, stat (freshA ops st cr) (pops cx ops cr (arun cx ops K p) (I ++ [(s, fb)]) st) → ∃ s', K s' ∧
    ∀ (w0 : Bas) (ok0 : Nat → Prop) (Q : Exit → Act → World → Prop), ((∀ a w, RelE w0 ok0 s' a w → Q .normal a w) ∧ ∀ c a a' w, Q (.panic c) a w → Q (.panic c) a' w) →
     ∀ (listed : Array Bool) (N : Nat) (a : Act) (w : World), listed.toList = l → l.count false ≤ N → RelE w0 ok0 st a w → wpAny P .any ops Q N listed a w := by
    intro st hk
    obtain ⟨hfr, hk⟩ := stat_out hk
    obtain ⟨s1, h1, h2⟩ := front_any h hlen hok2 hcr2 hfo2 hfr hk
    obtain ⟨s', hs', hrun⟩ := ih ((setL l (I.map (·.1))).set s true) s1 hlen2 hp h1
    refine ⟨s', hs', fun w0 ok0 Q hQ listed N a w hl hN hr => ?_⟩
    exact h2 w0 ok0 Q (fun listed N a w hl hN hr => hrun w0 ok0 Q hQ listed N a w (hl.trans hset) (by rw [← hset, ← hl]; exact hN) hr) listed N a w hl hN hr
   unfold arun at hk
   rw [frc_eq] at hk
   split at hk
   · rename_i j want hg
     split at hk
     · rename_i t ht
       split at hk
       · rename_i b hb
         cases want with
         | true =>
          rw [cond_true] at hk
          rcases br_cases hk with ⟨e, hk2⟩ | ⟨e, hk2⟩
          · subst e; rw [put_same (by simp) hb] at hk2; exact appP hk2
          · subst e; rw [put_same (by simp) hb] at hk2; exact anyP hk2
         | false =>
          rw [cond_false] at hk
          rcases br_cases hk with ⟨e, hk2⟩ | ⟨e, hk2⟩
          · subst e; rw [put_same (by simp) hb] at hk2; exact anyP hk2
          · subst e; rw [put_same (by simp) hb] at hk2; exact appP hk2
       · exact anyP hk
       · exact hk.elim
     · exact hk.elim
   · exact hk.elim
  | tak i =>
   simp only [planOK, Bool.and_eq_true] at hp
   obtain ⟨⟨⟨hmv, hfree⟩, hin⟩, hp⟩ := hp
   have hin := inL_mem.1 hin
   have hk : (match ops[i]? with | some o => aops cx ops (arun cx ops K p) [o] st | none => False) := hk
   split at hk
   · rename_i o ho
     have hmv : ∃ x, o.op = .move x := by
      unfold isMv at hmv
      rw [ho] at hmv
      simp only at hmv
      split at hmv
      · rename_i x hx; exact ⟨x, hx⟩
      · cases hmv
     obtain ⟨x, hx⟩ := hmv
     obtain ⟨s1, h1, h2⟩ := mv_out h hx hk
     obtain ⟨s', hs', hrun⟩ := ih (l.set i true) s1 (by simpa using hlen) hp h1
     refine ⟨s', hs', fun w0 ok0 Q hQ listed N a w hl hN hr => ?_⟩
     have hcs := count_set (ready_false hin)
     obtain ⟨v, hy, hr'⟩ := h2 w0 ok0 a w hr
     cases N with
     | zero => omega
     | succ N =>
      have hl' : listed = l.toArray := by rw [← hl]
      refine wpAny_take ho hns (by rw [hl']; exact hfree) (by
       rw [List.contains_iff_mem]
       exact readyL_spec.1 (by rw [hl]; exact hin)) (fun c a w hq => hQ.2 c _ _ w hq) hy ?_
      exact hrun w0 ok0 Q hQ _ N _ w (by simp [hl]) (by omega) hr'
   · exact hk.elim
  | tre c t ks =>
   simp only [planOK, Bool.and_eq_true] at hp
   obtain ⟨htr, hp⟩ := hp
   unfold arun at hk
   rw [frc_eq] at hk
   obtain ⟨z, hT, hR⟩ := crun_out h hk
   obtain ⟨s', hs', hrun⟩ := ih (setL l c) (kpS ks z) (by rw [setL_len]; exact hlen) hp hR
   refine ⟨s', hs', fun w0 ok0 Q hQ listed N a w hl hN hr => ?_⟩
   exact (tre_run h (fun s hs => (sameS_weak hs).ent) (fun listed N a w hl hN hr => hrun w0 ok0 Q hQ listed N a w hl hN hr) t true l st htr hT).1 rfl listed N a w hl hN hr
  | frz t =>
   unfold arun at hk
   rw [frc_eq] at hk
   obtain ⟨s', hs', hrun⟩ := ih l _ hlen hp hk
   exact ⟨s', hs', fun w0 ok0 Q hQ listed N a w hl hN hr => hrun w0 ok0 Q hQ listed N a w hl hN (freezes_ent _ _ _ _ _ hr)⟩
  | fst cr I s =>
   simp only [planOK, Bool.and_eq_true] at hp
   obtain ⟨⟨⟨hok, hcr⟩, hfo⟩, hp⟩ := hp
   unfold arun at hk
   rw [frc_eq] at hk
   obtain ⟨hfr, hk⟩ := stat_out hk
   obtain ⟨s1, h1, h2⟩ := front_sto h hlen hok hcr hfo hfr hk
   obtain ⟨s', hs', hrun⟩ := ih ((setL l (I.map (·.1))).set s true) s1 (by rw [List.length_set, setL_len]; exact hlen) hp h1
   refine ⟨s', hs', fun w0 ok0 Q hQ listed N a w hl hN hr => ?_⟩
   exact h2 w0 ok0 Q (fun listed N a w hl hN hr => hrun w0 ok0 Q hQ listed N a w hl (by rw [← hl]; exact hN) hr) listed N a w hl hN hr
  | sto cr I s =>
   simp only [planOK, Bool.and_eq_true] at hp
   obtain ⟨⟨⟨hok, hcr⟩, hfo⟩, hp⟩ := hp
   unfold arun at hk
   rw [frc_eq] at hk
   obtain ⟨hfr, hk⟩ := stat_out hk
   obtain ⟨s1, h1, h2⟩ := front_stoD h hlen hok hcr hfo hfr hk
   obtain ⟨s', hs', hrun⟩ := ih ((setL l (I.map (·.1))).set s true) s1 (by rw [List.length_set, setL_len]; exact hlen) hp h1
   refine ⟨s', hs', fun w0 ok0 Q hQ listed N a w hl hN hr => ?_⟩
   exact h2 w0 ok0 Q (fun listed N a w hl hN hr => hrun w0 ok0 Q hQ listed N a w hl (by rw [← hl]; exact hN) hr) listed N a w hl hN hr
  | app cr I s =>
   simp only [planOK, Bool.and_eq_true] at hp
   obtain ⟨⟨⟨hok, hcr⟩, hfo⟩, hp⟩ := hp
   unfold arun at hk
   rw [frc_eq] at hk
   obtain ⟨hfr, hk⟩ := stat_out hk
   obtain ⟨s1, h1, h2⟩ := front_app h hlen hok hcr hfo hfr hk
   obtain ⟨s', hs', hrun⟩ := ih ((setL l (I.map (·.1))).set s true) s1 (by rw [List.length_set, setL_len]; exact hlen) hp h1
   refine ⟨s', hs', fun w0 ok0 Q hQ listed N a w hl hN hr => ?_⟩
   exact h2 w0 ok0 Q (fun listed N a w hl hN hr => hrun w0 ok0 Q hQ listed N a w hl (by rw [← hl]; exact hN) hr) listed N a w hl hN hr
def RunC (P : Program) (c : Code) (st : St) (ae : AE) (st' : St) : Prop := ∀ (F : Fence) (n : Nat), Wd (inB c) F → ∀ (w0 : Bas) (ok0 : Nat → Prop) (a : Act) (w : World), RelE w0 ok0 st a w → c.wpIn F n P (fun e a' w' => ae.is e ∧ RelE w0 ok0 st' a' w') a w
def aloop (us : (AE → St → Prop) → Prop) (body : (AE → St → Prop) → St → Prop) : Nat → (AE → St → Prop) → St → Prop
 | 0, _, _ => False
 | n + 1, Q, st => ∃ st1 Q', Ent st st1 ∧ us Q' ∧ (∀ e s, Q' e s → match e with
  | .normal => aloop us body n Q s
  | e => ∃ s1, Ent s s1 ∧ Q e s1) ∧ body Q' st1
def LpOk (cx : Cx) (ct : Cuts) (us : Option Nat → (AE → St → Prop) → Prop) (c : Code) : Prop := ∀ S, look (lkey c) ct.lp = some S → ∀ st Q, S st Q → ∃ n, aloop (us (some (lkey c))) (fun Q => awp cx ct c Q Q) n Q st
def JnOk (cx : Cx) (ct : Cuts) (us : Option Nat → (AE → St → Prop) → Prop) (p : Jn) : Prop := ∀ S, look p.key ct.jn = some S → ∀ U, us p.lp U → ∀ st, S st U → ∃ st1, Ent st st1 ∧ awp cx ct p.code U (p.cont U) st1
def chain (P : Program) (c : Code) (ae : AE) (st' : St) : Nat → St → Prop
 | 0, _ => False
 | n + 1, st => ∃ st1 ae1 s, Ent st st1 ∧ RunC P c st1 ae1 s ∧ match ae1 with
  | .normal => chain P c ae st' n s
  | e => ae = e ∧ Ent s st'
theorem run_loop {c : Code} {ae : AE} {st' : St} {n : Nat} {st : St} (h : chain P c ae st' n st) : RunC P (.loop c) st ae st' := by
 intro F nn hF w0 ok0 a w r
 have least : ∀ (a : Act) (w : World), (∃ n st, chain P c ae st' n st ∧ RelE w0 ok0 st a w) → ∃ n, (∃ st, chain P c ae st' n st ∧ RelE w0 ok0 st a w) ∧ ∀ k, k < n → ¬ ∃ st, chain P c ae st' k st ∧ RelE w0 ok0 st a w := by
  intro a w ⟨n, st, h⟩
  induction n using Nat.strongRecOn generalizing st with
  | _ n ih =>
   by_cases hex : ∃ k, k < n ∧ ∃ st, chain P c ae st' k st ∧ RelE w0 ok0 st a w
   · obtain ⟨k, hk, s2, h'⟩ := hex
     exact ih k hk s2 h'
   · exact ⟨n, ⟨st, h⟩, fun k hk h => hex ⟨k, hk, h⟩⟩
 let I : Act → World → Prop := fun a w => ∃ n st, chain P c ae st' n st ∧ RelE w0 ok0 st a w
 have hdec : ∀ a w, ∃ n, I a w → ((∃ st, chain P c ae st' n st ∧ RelE w0 ok0 st a w) ∧ ∀ k, k < n → ¬ ∃ st, chain P c ae st' k st ∧ RelE w0 ok0 st a w) := by
  intro a w
  by_cases hI : I a w
  · obtain ⟨n, h⟩ := least a w hI; exact ⟨n, fun _ => h⟩
  · exact ⟨0, fun h => absurd h hI⟩
 let μ : Act → World → Nat := fun a w => (hdec a w).choose
 have hμ : ∀ a w, I a w → ((∃ st, chain P c ae st' (μ a w) st ∧ RelE w0 ok0 st a w) ∧ ∀ k, k < μ a w → ¬ ∃ st, chain P c ae st' k st ∧ RelE w0 ok0 st a w) := fun a w => (hdec a w).choose_spec
 refine wpIn_loop I μ ⟨n, st, h, r⟩ ?_
 intro a w hI
 obtain ⟨⟨st, h, r⟩, _⟩ := hμ a w hI
 cases hn : μ a w with
 | zero => rw [hn] at h; exact h.elim
 | succ n =>
  rw [hn] at h
  obtain ⟨st1, ae1, s, hent, hrun, h⟩ := h
  refine wpIn_mono (hrun F nn hF w0 ok0 a w (hent _ _ _ _ r)) ?_
  rintro e a' w' ⟨he, hr⟩
  cases ae1 with
  | normal =>
   cases e <;> first | exact he.elim | skip
   have hI' : I a' w' := ⟨n, s, h, hr⟩
   refine ⟨hI', ?_⟩
   obtain ⟨_, hmin⟩ := hμ a' w' hI'
   rcases Nat.lt_or_ge n (μ a' w') with hlt | hge
   · exact absurd ⟨s, h, hr⟩ (hmin n hlt)
   · omega
  | exit i =>
   obtain ⟨rfl, h5⟩ := h
   cases e <;> first | exact he.elim | exact ⟨he, h5 _ _ _ _ hr⟩
  | ret =>
   obtain ⟨rfl, h5⟩ := h
   cases e <;> first | exact he.elim | exact ⟨he, h5 _ _ _ _ hr⟩
theorem renTo_run {inn : Sk} {mi : Nat → Value} {wi : World} {glo : GloW wi (entX inn mi)} (id d : Nat) (r : Rel (entB inn mi wi glo) m ok st a w) : ∃ m', Rel (entB inn mi wi glo) m' ok (renTo inn id d st) a w := by
 unfold renTo
 cases hb : Nat.beq id d with
 | true => exact ⟨m, r⟩
 | false =>
  simp only [cond_false]
  split
  · exact ⟨m, r⟩
  · rename_i hno
    split
    · rename_i o ho
      exact ⟨_, r.ren0 (Nat.ne_of_beq_eq_false hb) ho fun v hv => by
       have := (entB_pin hv).1
       rw [hno] at this; cases this⟩
    · exact ⟨m, r⟩
theorem canE_run {inn : Sk} {mi : Nat → Value} {wi : World} {glo : GloW wi (entX inn mi)} : ∀ (l : List (Nat × SkV)) {m : Nat → Value} {st : St}, Rel (entB inn mi wi glo) m ok st a w → ∃ m', Rel (entB inn mi wi glo) m' ok (canE inn l st) a w
 | [], m, st, r => ⟨m, r⟩
 | (i, k) :: l, m, st, r => by
  cases k with
  | row d =>
   simp only [canE]
   split
   · rename_i id _
     obtain ⟨m', r'⟩ := renTo_run id d r
     exact canE_run l r'
   · exact canE_run l r
  | ptr d o =>
   simp only [canE]
   split
   · rename_i id _ _
     obtain ⟨m', r'⟩ := renTo_run id d r
     exact canE_run l r'
   · exact canE_run l r
  | wbx d o n e t =>
   simp only [canE]
   split
   · rename_i id _ _ _ _ _
     obtain ⟨m', r'⟩ := renTo_run id d r
     exact canE_run l r'
   · exact canE_run l r
  | fn f => exact canE_run l r
  | var t => exact canE_run l r
  | rvar t => exact canE_run l r
  | nilp => exact canE_run l r
  | sub i => exact canE_run l r
  | clo f t => exact canE_run l r
theorem canR_run {inn : Sk} {mi : Nat → Value} {wi : World} {glo : GloW wi (entX inn mi)} : ∀ (l : List ((Nat × Nat) × Nat)) {m : Nat → Value} {st : St}, Rel (entB inn mi wi glo) m ok st a w → ∃ m', Rel (entB inn mi wi glo) m' ok (canR inn l st) a w
 | [], m, st, r => ⟨m, r⟩
 | p :: l, m, st, r => by
  simp only [canR]
  split
  · rename_i id _
    obtain ⟨m', r'⟩ := renTo_run id (cId p.2) r
    exact canR_run l r'
  · rename_i id _ _
    obtain ⟨m', r'⟩ := renTo_run id (cId p.2) r
    exact canR_run l r'
  · exact canR_run l r
theorem freezes_n : ∀ {l : List Nat} {st : St}, (freezes st l).n = st.n
 | [], _ => rfl
 | i :: r, st => by
  unfold freezes
  rw [freezes_n]
  unfold St.freeze
  split <;> rfl
theorem Sk.rd_ent {k : Sk} {st : St} {x : k.D} (h : k.rd st = some x) : Ent st (k.mk' x) := by
 refine (freezes_ent k.fz).trans (Weak.ent ?_)
 unfold Sk.rd at h
 split at h
 · rename_i z hz
   cases hn : Nat.beq k.n st.n with
   | false => rw [hn] at h; cases h
   | true =>
    rw [hn, cond_true] at h
    cases hrf : rfOk (freezes st k.fz).rf k.rf with
    | false => rw [hrf] at h; cases h
    | true =>
    rw [hrf, cond_true] at h
    obtain ⟨h1, h3⟩ := envRd_out h
    refine ⟨?_, h3, fun i o ho => ?_, rfOk_out hrf⟩
    · show k.n = (freezes st k.fz).n
      rw [freezes_n]; exact Nat.eq_of_beq_eq_true hn
    have : fnd i (hpMk k.hp (envMk k.env x).2) = some o := ho
    rw [h1] at this
    exact hpRd_out hz i o this
 · cases h
theorem slotsL_len (st : St) : ∀ (k i : Nat), (slotsL st k i).length = k
 | 0, _ => rfl
 | k + 1, i => by simp [slotsL, slotsL_len st k]
theorem slotsL_get (st : St) : ∀ (k i j : Nat) (x : AV0), (slotsL st k i)[j]? = some x → j < k ∧ x = (match st.get (i + j) with | .v a => a | .tup _ => .un)
 | 0, i, j, x, h => by simp [slotsL] at h
 | k + 1, i, 0, x, h => by
  simp only [slotsL, List.getElem?_cons_zero, Option.some.injEq] at h
  exact ⟨by omega, h.symm⟩
 | k + 1, i, j + 1, x, h => by
  simp only [slotsL, List.getElem?_cons_succ] at h
  obtain ⟨h1, h2⟩ := slotsL_get st k (i + 1) j x h
  exact ⟨by omega, by rw [show i + (j + 1) = i + 1 + j by omega]; exact h2⟩
theorem putI_rel {B : Bas} {m : Nat → Value} {ok : Nat → Prop} {w : World} : ∀ (ps : List Nat) (ys : List AV0) (vs : List Value) {st : St} {t : Array Value}, ps.length = ys.length → vs.length = ys.length → (∀ (i : Nat) (y : AV0), ys[i]? = some y → ∃ v, vs[i]? = some v ∧ ∀ hp m, RepA0 w ok m hp y v) →
 Rel B m ok st { tmps := t, defers := [] } w → Rel B m ok (putI ps ys st) { tmps := (ps.zip vs).foldl (fun t (p, v) => t.setIfInBounds p v) t, defers := [] } w
 | [], [], _, st, t, _, _, _, r => by simpa [putI] using r
 | [], _ :: _, _, _, _, h, _, _, _ => by simp at h
 | _ :: _, [], _, _, _, h, _, _, _ => by simp at h
 | p :: ps, y :: ys, [], _, _, _, h, _, _ => by simp at h
 | p :: ps, y :: ys, v :: vs, st, t, h1, h2, h, r => by
  obtain ⟨v', e, hv⟩ := h 0 y rfl
  simp at e
  subst e
  have r1 := r.put (x := .v y) (v := v) (hv _ _) (some p)
  exact putI_rel ps ys vs (by simpa using h1) (by simpa using h2) (fun i z hz => h (i + 1) z (by simpa using hz)) r1
theorem outS_run {inn out : Sk} {mi : Nat → Value} {wi : World} {glo : GloW wi (entX inn mi)} {m : Nat → Value} {ok ok0 : Nat → Prop} {st : St} {a : Act} {w : World} (r : Rel (entB inn mi wi glo) m ok st a w) {y : out.D} (hy : out.rd (outS inn out [] st) = some y) (f : ∀ b, ok b → ok0 b ∨ (entB inn mi wi glo).fr b) :
 RelE (entB inn mi wi glo) ok0 (out.mk' y) (actOf []) w := by
 have r2 : Rel (entB inn mi wi glo) m ok { env := initE 0 [], hp := st.hp, n := 0, rf := st.rf } (actOf []) w :=
  ⟨Marks.nil, rfl, fun i => True.intro, r.ob, r.sep, r.inj, r.okb, r.keep, fun id v hv => ⟨Nat.zero_le _, (r.pins id v hv).2⟩, r.rfs⟩
 obtain ⟨m3, r3⟩ := canE_run out.env r2
 obtain ⟨m4, r4⟩ := canR_run out.rf r3
 exact Sk.rd_ent hy _ _ _ _ ⟨m4, ok, r4, f⟩
theorem Rel.busy {inn : Sk} {mi : Nat → Value} {wi : World} {glo : GloW wi (entX inn mi)} {l : Nat} {r0 r1 : Loop} {glo' : GloW (wi.putObj l (.loop r1)) (entX inn mi)} {m : Nat → Value} {ok : Nat → Prop} {st : St} {a : Act} {w : World} (r : Rel (entB inn mi wi glo) m ok st a w)
 (hl : w.heap[l]? = some (.loop r0)) (hlt : l < wi.heap.size) (hx : ¬ entX inn mi l) (ho : ¬ ok l) : Rel (entB inn mi (wi.putObj l (.loop r1)) glo') m ok st a (w.putObj l (.loop r1)) := by
 have hsz : ∀ w : World, (w.putObj l (.loop r1)).heap.size = w.heap.size := fun w => by simp [World.putObj]
 have hoth : ∀ {w : World} {b : Nat}, b ≠ l → (w.putObj l (.loop r1)).heap[b]? = w.heap[b]? := fun h => World.putObj_heap_other h
 have hown : ∀ id o b, fnd id st.hp = some o → blk (m id) = some b → b ≠ l := fun id o b hf hb e => by
  subst e
  obtain ⟨c, T, z, hc⟩ := (r.ob id o hf).cells hb
  rw [hl] at hc; cases hc
 have hok : ∀ b, ok b → (w.putObj l (.loop r1)).heap[b]? = w.heap[b]? := fun b hb => hoth fun e => ho (e ▸ hb)
 have fr : ∀ b, (entB inn mi wi glo).fr b → (entB inn mi (wi.putObj l (.loop r1)) glo').fr b := fun b h => h.imp (fun h => by
  show (wi.putObj l (.loop r1)).heap.size ≤ b
  rw [hsz]; exact h) id
 refine ⟨r.defers.move fun D hm c f n => ⟨fr D f, n, hoth fun e => by rw [e, hl] at c; cases c⟩, r.size, fun i => (r.env i).mono hok (fun _ h => h), r.blkObj (fun id o b hf hb => hoth (hown id o b hf hb)) hok (fun _ h => h),
  fun id o b hf hb => ⟨(r.sep id o b hf hb).1, fr b (r.sep id o b hf hb).2.1, by rw [hsz]; exact (r.sep id o b hf hb).2.2⟩, r.inj, fun b hb => by rw [hsz]; exact r.okb b hb, ⟨r.keep.os, r.keep.tape, r.keep.output, ?_, fun k hk hkx => ?_⟩, r.pins, fun id off hu T t x hf => ?_⟩
 · show (wi.putObj l (.loop r1)).heap.size ≤ _
   rw [hsz, hsz]; exact r.keep.size
 · have hk : k < (wi.putObj l (.loop r1)).heap.size := hk
   rw [hsz] at hk
   show (w.putObj l (.loop r1)).heap[k]? = (wi.putObj l (.loop r1)).heap[k]?
   by_cases e : k = l
   · subst e
     rw [World.putObj_heap_same (Array.getElem?_eq_some_iff.1 hl).1, World.putObj_heap_same hlt]
   · rw [hoth e, hoth e]; exact r.keep.block k hk hkx
 · obtain ⟨b, v, e, hc, hr⟩ := r.rfs id off hu T t x hf
   refine ⟨b, v, e, ?_, hr.mono hok (fun _ h => h)⟩
   rw [World.cell?_of_block (w := w) (hoth (hown id _ b hf (by rw [e]; rfl)))]; exact hc
def RunR (P : Program) (a b : Code) (ps : Array Tmp) (y : List AV0) (st : St) (ae : AE) (s' : St) : Prop := ps.size = y.length ∧ ∀ (w0 : Bas) (m : Nat → Value) (ok : Nat → Prop) (act : Act) (A : World) (l D : Nat) (r : Loop) (v : Array Value) (n : Nat), Rel w0 m ok st act A → A.heap[l]? = some (.loop r) → A.heap[D]? = some (.deferred (some [])) → ¬ ok l → ¬ ok D → w0.fr l → RepIt A ok y v →
 a.wpIn (Fence.wide.inRound l) n P (Exit.then (fun a1 A1 => A1.heap[l]? = some (.loop r) ∧ (∀ x, ok x → A1.heap[x]? = A.heap[x]?) ∧
  b.wpIn (Fence.wide.inRound l) n P (fun e _ W => ae.is e ∧ (W.heap[l]? = some (.loop { r with state := .busy }) ∧ W.heap[D]? = some (.deferred (some []))) ∧ (∀ x, ok x → W.heap[x]? = A.heap[x]?) ∧
   ∃ m' ok', Rel w0 m' ok' s' act W ∧ (∀ x, ok x → ok' x) ∧ (∀ x, ok' x → ok x ∨ w0.fr x) ∧ ¬ ok' l ∧ ¬ ok' D) a1 (A1.putObj l (.loop { r with state := .busy }))) (fun _ _ _ => False))
  { tmps := (ps.zip v).foldl (fun t (p, v) => t.setIfInBounds p v) act.tmps, defers := [] } A
theorem rnd_run (hcx : CxOk P cx) {ct : Cuts} {inn : Sk} {outs : List (AE × Sk)} {a b : Code} {ps : Array Tmp} {y : List AV0} {K : AE → St → Prop} {st : St}
 (ha : ∀ (J : AE → St → Prop) (s : St), awp cx ct a (fun _ _ => False) J s → ∃ ae s', J ae s' ∧ RunC P a s ae s') (hb : ∀ (J : AE → St → Prop) (s : St), awp cx ct b J J s → ∃ ae s', J ae s' ∧ RunC P b s ae s')
 (hin : inB a = true ∧ inB b = true) (h : rndA cx ct inn outs a b ps.toList y K st) : ∃ ae s', K ae s' ∧ RunR P a b ps y st ae s' := by
 unfold rndA at h
 split at h
 rotate_left
 · exact h.elim
 rename_i ρ hρ
 clear hρ
 obtain ⟨hok, h⟩ := stat_out h
 simp only [Bool.and_eq_true] at hok
 obtain ⟨hoki, hpl⟩ := hok
 have hpl := Nat.eq_of_beq_eq_true hpl
 simp only [okI, Bool.and_eq_true, List.all_eq_true] at hoki
 obtain ⟨g1, g2, g3, g4, g5, g8⟩ := hoki
 have hfz : inn.fz = [] := List.isEmpty_iff.1 g1
 have hkρ := distinctL_nodup g2
 have hvρ := distinctL_nodup g3
 unfold Sk.as at h
 split at h
 rotate_left
 · exact h.elim
 rename_i x hx
 obtain ⟨ae1, s1, h1, run1⟩ := ha _ _ h
 cases ae1 with
 | exit i => exact h1.elim
 | ret => exact h1.elim
 | normal =>
 obtain ⟨ae2, s2, h2, run2⟩ := hb _ _ h1
 unfold rndK at h2
 split at h2
 rotate_left
 · exact h2.elim
 rename_i out hout
 obtain ⟨hoks, h2⟩ := stat_out h2
 simp only [Bool.and_eq_true] at hoks
 obtain ⟨hok2, hn0⟩ := hoks
 have hn0 := Nat.eq_of_beq_eq_true hn0
 unfold Sk.as at h2
 split at h2
 rotate_left
 · exact h2.elim
 rename_i z hz
 refine ⟨ae2, _, h2, ?_⟩
 clear h h1 h2 ha hb
 refine ⟨by simpa using hpl, ?_⟩
 intro w0 m ok act A l D r v n rel hl hD hol hoD hfl hit
 -- the frame's slots come in
 have hsl := slotsL_len st st.n 0
 have hargs : ∀ (i : Nat) (q : AV0), (slotsL st st.n 0)[i]? = some q → ∃ u, act.tmps.toList[i]? = some u ∧ RepA0 A ok m st.hp q u := fun i q hq => by
  obtain ⟨hi, e⟩ := slotsL_get st st.n 0 i q hq
  have hlt : i < act.tmps.size := by rw [rel.size]; exact hi
  refine ⟨act.tmps[i], by simp [hlt], ?_⟩
  have hv := rel.env i
  rw [Nat.zero_add] at e
  have e2 : act.tmps.getD i undef = act.tmps[i] := by simp [Array.getD_eq_getD_getElem?, hlt]
  rw [e2] at hv
  rw [e]
  revert hv
  cases st.get i with
  | v q => exact fun h => h
  | tup q => exact fun _ => trivial
 have hob : ∀ c id, (c, id) ∈ ρ → ∃ q z, lkO c inn.hp = some q ∧ fnd id st.hp = some (q.mk z) := by
  intro c id hc
  have hlk : ∃ q, lkO c inn.hp = some q := by
   have : ∀ l : List (Nat × SkO), c ∈ l.map (·.1) → ∃ q, lkO c l = some q := by
    intro l
    induction l with
    | nil => intro h; simp at h
    | cons p l ih =>
     intro h
     simp only [lkO, nbeq]
     by_cases e : p.1 = c
     · exact ⟨p.2, by simp [e]⟩
     · simp only [List.map_cons, List.mem_cons] at h
       obtain ⟨q, hq⟩ := ih (h.resolve_left fun h => e h.symm)
       exact ⟨q, by simp [e, hq]⟩
   exact this _ (inL_mem.1 (g5 _ hc))
  obtain ⟨q, hq⟩ := hlk
  obtain ⟨z, hz⟩ := Sk.rd_has hfz hx c q hq
  obtain ⟨id', h1', h2'⟩ := fnd_hpS hz
  have := lkN_of hkρ hc
  rw [lkN_of hkρ h1'] at this
  obtain rfl := Option.some.inj this
  exact ⟨q, z, hq, h2'⟩
 have hX : ∀ b, entX inn (subM m ρ) b → ∃ id o, fnd id st.hp = some o ∧ blk (m id) = some b := by
  rintro b ⟨c, hc, hbl⟩
  obtain ⟨p, hp, rfl⟩ := List.mem_map.1 (inL_mem.1 hc)
  obtain ⟨q, hq, e⟩ := List.mem_map.1 (inL_mem.1 (g4 p hp).2)
  have hpq : (p.1, q.2) ∈ ρ := by rw [← e]; exact hq
  have hs : subM m ρ p.1 = m q.2 := by unfold subM; rw [lkN_of hkρ hpq]
  rw [hs] at hbl
  obtain ⟨_, _, _, ho⟩ := hob _ _ hpq
  exact ⟨q.2, _, ho, hbl⟩
 have gl : GloW A (entX inn (subM m ρ)) := rel.keep.gloW fun b hb => by
  obtain ⟨id, o, ho, hbl⟩ := hX b hb
  exact (rel.sep id o b ho hbl).2.1
 have hnX : ∀ {b : Nat}, (∀ c T z, A.heap[b]? ≠ some (.cells c T z)) → ¬ entX inn (subM m ρ) b := fun hb hx => by
  obtain ⟨id, o, ho, hbl⟩ := hX _ hx
  obtain ⟨c, T, z, e⟩ := (rel.ob id o ho).cells hbl
  exact hb c T z e
 have hlX : ¬ entX inn (subM m ρ) l := hnX fun c T z e => by rw [hl] at e; cases e
 have hDX : ¬ entX inn (subM m ρ) D := hnX fun c T z e => by rw [hD] at e; cases e
 have hokX : ∀ b, ok b → ¬ entX inn (subM m ρ) b := fun b hb hx => by
  obtain ⟨id, o, ho, hbl⟩ := hX _ hx
  exact (rel.sep id o b ho hbl).1 hb
 have hlt := (Array.getElem?_eq_some_iff.1 hl).1
 have hDt := (Array.getElem?_eq_some_iff.1 hD).1
 have hDl : D ≠ l := fun e => by rw [e, hl] at hD; cases hD
 have hsub := rel.subS (S := inn) (ρ := ρ) (l := slotsL st st.n 0) (vals := act.tmps.toList) hkρ hvρ (fun p hp => inL_mem.1 (g5 p hp)) (fun p hp => by
  have := (g4 p hp).1
  rw [Nat.ble_eq] at this
  rw [hsl]; exact this) (by rw [hsl]; simpa using rel.size) hargs gl
 have hsub2 := Weak.rel hsub (Sk.rd_weak hfz hx)
 have e0 : actOf act.tmps.toList = { tmps := act.tmps, defers := [] } := by simp [actOf]
 rw [e0] at hsub2
 have hput := putI_rel ps.toList y v.toList hpl (by simpa using hit.1) (fun i q hq => by
  obtain ⟨u, hu, hr⟩ := hit.2 i q hq
  exact ⟨u, by simpa using hu, hr⟩) hsub2
 have ez : (ps.zip v).foldl (fun t (p, v) => t.setIfInBounds p v) act.tmps = (ps.toList.zip v.toList).foldl (fun t (p, v) => t.setIfInBounds p v) act.tmps := by
  rw [← Array.foldl_toList, Array.toList_zip]
 rw [ez]
 refine wpIn_mono (run1 _ n (.inr ⟨⟨l, rfl⟩, hin.1⟩) (entB inn (subM m ρ) A gl) ok _ A ⟨_, _, hput, fun b hb => .inl hb⟩) ?_
 rintro e a1 A1 ⟨he, m1, ok1, r1, f1⟩
 cases e <;> first | exact he.elim | skip
 have hl1 : A1.heap[l]? = some (.loop r) := (r1.keep.block l hlt hlX).trans hl
 have hol1 : ¬ ok1 l := fun h => (f1 l h).elim hol fun h => h.elim (fun h => by have : A.heap.size ≤ l := h; omega) hlX
 refine ⟨hl1, fun b hb => r1.keep.block b (rel.okb b hb) (hokX b hb), ?_⟩
 -- the record is busy
 have rel' : Rel w0 m ok st act (A.putObj l (.loop { r with state := .busy })) := by
  have hsz : (A.putObj l (.loop { r with state := .busy })).heap.size = A.heap.size := by simp [World.putObj]
  refine rel.world (fun b hb => World.putObj_heap_other fun e => hol (e ▸ hb)) (fun id o b hid hb => World.putObj_heap_other fun e => ?_) (by rw [hsz]; exact Nat.le_refl _)
   ⟨rel.keep.os, rel.keep.tape, rel.keep.output, by rw [hsz]; exact rel.keep.size, fun k hk hx => by rw [World.putObj_heap_other (Bas.no hk hx hfl)]; exact rel.keep.block k hk hx⟩ (fun _ h => h) (fun b hb => by rw [hsz]; exact rel.okb b hb) (fun id o b hid hb => (rel.sep id o b hid hb).1)
   (fun D' _ hd' hn' => ⟨hn', World.putObj_heap_other fun e => by rw [e, hl] at hd'; cases hd'⟩)
  obtain ⟨c, T, z, hc⟩ := (rel.ob id o hid).cells hb
  rw [e, hl] at hc; cases hc
 have gl' : GloW (A.putObj l (.loop { r with state := .busy })) (entX inn (subM m ρ)) := rel'.keep.gloW fun b hb => by
  obtain ⟨id, o, ho, hbl⟩ := hX b hb
  exact (rel.sep id o b ho hbl).2.1
 have r1' := r1.busy (r1 := { r with state := .busy }) (glo' := gl') hl1 hlt hlX hol1
 have f1' : ∀ b, ok1 b → ok b ∨ (entB inn (subM m ρ) (A.putObj l (.loop { r with state := .busy })) gl').fr b := fun b hb => (f1 b hb).imp id fun h => h.imp (fun h => by
  show (A.putObj l (.loop { r with state := .busy })).heap.size ≤ b
  simp only [World.putObj, Array.size_setIfInBounds]; exact h) id
 refine wpIn_mono (run2 _ n (.inr ⟨⟨l, rfl⟩, hin.2⟩) _ ok _ _ ⟨_, _, r1', f1'⟩) ?_
 rintro e a2 A3 ⟨he, m2, ok2, r2, f2⟩
 have hszA : (A.putObj l (.loop { r with state := .busy })).heap.size = A.heap.size := by simp [World.putObj]
 have kp : ∀ b, b < A.heap.size → ¬ entX inn (subM m ρ) b → A3.heap[b]? = (A.putObj l (.loop { r with state := .busy })).heap[b]? := fun b h1 h2 => r2.keep.block b (by show b < (A.putObj l (.loop { r with state := .busy })).heap.size; rw [hszA]; exact h1) h2
 refine ⟨he, ⟨(kp l hlt hlX).trans (World.putObj_heap_same hlt), (kp D hDt hDX).trans ((World.putObj_heap_other hDl).trans hD)⟩, fun b hb => (kp b (rel.okb b hb) (hokX b hb)).trans (World.putObj_heap_other fun e => hol (e ▸ hb)), ?_⟩
 obtain ⟨m4, ok4, r4, f4⟩ := outS_run r2 hz f2
 simp only [okS, Bool.and_eq_true, List.all_eq_true] at hok2
 obtain ⟨q1, q2, g6, g7, g9⟩ := hok2
 obtain ⟨m5, ok5, r5, k1, k2, k3⟩ := rel'.back (S := ⟨inn, out⟩) (ρ := ρ) (nw := []) (d := none) (us := []) (y := z) (g := gl') (by rw [List.append_nil]; exact hkρ) (by rw [List.append_nil]; exact hvρ)
  (fun p hp => by
   obtain ⟨q, hq, e⟩ := List.mem_map.1 (inL_mem.1 (g4 p hp).2)
   exact ⟨q.2, by rw [← e]; exact hq⟩)
  hob (fun p hp => by cases hp) (fun p hp => by
   have := g7 p hp
   rw [List.append_nil] at this ⊢
   exact ⟨inL_mem.1 this.1, this.2⟩) (fun p hp => by
   have := g9 p hp
   simp only [Bool.or_eq_true, nblt, decide_eq_true_eq] at this
   exact this) r4 f4 hn0.symm
 have no : ∀ b, b < A.heap.size → ¬ entX inn (subM m ρ) b → ¬ ok b → ¬ ok5 b := fun b h1 h2 h3 h => (k3 b h).elim h3 fun h => h.elim (fun h => by
  have : (A.putObj l (.loop { r with state := .busy })).heap.size ≤ b := h
  rw [hszA] at this; omega) h2
 rw [List.append_nil] at r5
 exact ⟨m5, ok5, r5, k2, k1, no l hlt hlX hol, no D hDt hDX hoD⟩
def arf (cx : Cx) (ct : Cuts) (a b : Code) (ps : List Nat) : List (List AV0) → (AE → St → Prop) → St → Prop
 | [], Q, st => ∃ s1, Ent st s1 ∧ Q .normal s1
 | y :: r, Q, st => ∃ st1 inn outs K, Weak st1 st ∧ rndA cx ct inn outs a b ps y K st1 ∧ ∀ e s, K e s → match e with
     | .normal => arf cx ct a b ps r Q s
     | e => ∃ s1, Ent s s1 ∧ Q e s1
def RfOk (cx : Cx) (ct : Cuts) (a b : Code) (ps : Array Tmp) : Prop := (noJ ct.jn a && noJ ct.jn b && (inB a && inB b)) = true ∧ ∀ S, lookRng (lkey b) ct.rf = some S → ∀ E xs st Q, S E xs st Q → arf cx ct a b ps.toList (xs.map (itA E)) Q st
def rfs : Code → List (Code × Code × Array Tmp)
 | .seq x y => rfs x ++ rfs y
 | .cond _ x y => rfs x ++ rfs y
 | .block _ c => rfs c
 | .loop c => rfs c
 | .rangeFunc _ ps x y => (x, y, ps) :: (rfs x ++ rfs y)
 | _ => []
def RChain (P : Program) (a b : Code) (ps : Array Tmp) (ae : AE) (st' : St) : List (List AV0) → St → Prop
 | [], st => ae = .normal ∧ Ent st st'
 | y :: r, st => ∃ st1 ae1 s, Weak st1 st ∧ RunR P a b ps y st1 ae1 s ∧ match ae1 with
  | .normal => RChain P a b ps ae st' r s
  | e => ae = e ∧ Ent s st'
theorem noJ_ok {cx : Cx} {ct : Cuts} {us : Option Nat → (AE → St → Prop) → Prop} : ∀ (c : Code) (k : Option Nat) (C : (AE → St → Prop) → AE → St → Prop), noJ ct.jn c = true → ∀ x ∈ jns cx ct c k C, JnOk cx ct us x
 | .seq x y, k, C, h, z, hz => by
  simp only [noJ, Bool.and_eq_true] at h
  have hz : z ∈ jns cx ct x k _ ++ (⟨rkey x, y, C, k⟩ :: jns cx ct y k C) := hz
  rcases List.mem_append.1 hz with hz | hz
  · exact noJ_ok x k _ h.2.1 z hz
  · rcases List.mem_cons.1 hz with rfl | hz
    · intro S hS
      have := h.1
      rw [show look (rkey x) ct.jn = some S from hS] at this
      cases this
    · exact noJ_ok y k C h.2.2 z hz
 | .cond _ x y, k, C, h, z, hz => by
  simp only [noJ, Bool.and_eq_true] at h
  have hz : z ∈ jns cx ct x k C ++ jns cx ct y k C := hz
  rcases List.mem_append.1 hz with hz | hz
  · exact noJ_ok x k C h.1 z hz
  · exact noJ_ok y k C h.2 z hz
 | .block id c, k, C, h, z, hz => noJ_ok c k _ h z hz
 | .loop c, k, C, h, z, hz => noJ_ok c _ _ h z hz
 | .skip, _, _, _, _, hz => by cases hz
 | .region _ _ _, _, _, _, _, hz => by cases hz
 | .exit _, _, _, _, _, hz => by cases hz
 | .ret, _, _, _, _, hz => by cases hz
 | .goto _, _, _, _, _, hz => by cases hz
 | .label _, _, _, _, _, hz => by cases hz
 | .refuse _, _, _, _, _, hz => by cases hz
 | .rangeFunc _ _ _ _, _, _, _, _, hz => by cases hz
theorem Rel.poke {w0 : Bas} {m : Nat → Value} {ok : Nat → Prop} {st : St} {act : Act} {A : World} {l : Nat} {r0 : Loop} {o : Obj} (rel : Rel w0 m ok st act A) (hl : A.heap[l]? = some (.loop r0)) (hol : ¬ ok l) (hfl : w0.fr l) : Rel w0 m ok st act (A.putObj l o) := by
 have hsz : (A.putObj l o).heap.size = A.heap.size := by simp [World.putObj]
 refine rel.world (fun b hb => World.putObj_heap_other fun e => hol (e ▸ hb)) (fun id o' b hid hb => World.putObj_heap_other fun e => ?_) (by rw [hsz]; exact Nat.le_refl _)
  ⟨rel.keep.os, rel.keep.tape, rel.keep.output, by rw [hsz]; exact rel.keep.size, fun k hk hx => by rw [World.putObj_heap_other (Bas.no hk hx hfl)]; exact rel.keep.block k hk hx⟩ (fun _ h => h) (fun b hb => by rw [hsz]; exact rel.okb b hb) (fun id o b hid hb => (rel.sep id o b hid hb).1)
  (fun D' _ hd' hn' => ⟨hn', World.putObj_heap_other fun e => by rw [e, hl] at hd'; cases hd'⟩)
 obtain ⟨c, T, z, hc⟩ := (rel.ob id o' hid).cells hb
 rw [e, hl] at hc; cases hc
theorem Rel.grow {w0 : Bas} {m : Nat → Value} {ok : Nat → Prop} {st : St} {act : Act} {A B : World} (rel : Rel w0 m ok st act A) (hb : Below A.heap.size A B) : Rel w0 m ok st act B :=
 rel.world (fun b h => hb.block b (rel.okb b h)) (fun id o b hid hbl => hb.block b (rel.sep id o b hid hbl).2.2) hb.size (rel.keep.below hb) (fun _ h => h) (fun b h => Nat.lt_of_lt_of_le (rel.okb b h) hb.size) (fun id o b hid hbl => (rel.sep id o b hid hbl).1)
  (fun D _ hd hn => ⟨hn, hb.block D (Array.getElem?_eq_some_iff.1 hd).1⟩)
theorem map_mkC : ∀ {l l' : List Nat}, l.map mkC = l'.map mkC → l = l'
 | [], [], _ => rfl
 | [], _ :: _, h => by simp at h
 | _ :: _, [], h => by simp at h
 | a :: l, b :: l', h => by
  rw [List.map_cons, List.map_cons] at h
  have h1 := List.cons.inj h
  rw [mkC_inj h1.1, map_mkC h1.2]
theorem itA_len : ∀ (E : List (Bool × Ty)) (x : itD E), (itA E x).length = E.length
 | [], _ => rfl
 | (false, t) :: r, x => by simp [itA, itA_len r x.2]
 | (true, t) :: r, x => by simp [itA, itA_len r x.2]
theorem rf_run (hcx : CxOk P cx) {g : Operand} {ps : Array Tmp} {x y : Code} {st st' : St} {ae : AE} {f : FuncId} {t : Ty} {u : t.D} {It : ItF} {u' : It.t.D} (hg : opA cx st 0 g = .v (.clo f t u)) (hIt : cx.it f = some It) (hcu : cast? t It.t u = some u')
 (hc : RChain P x y ps ae st' ((It.L u').map (itA It.E)) st) (w0 : Bas) (ok0 : Nat → Prop) (a : Act) (w : World) {n : Nat} (r : RelE w0 ok0 st a w) : (Code.rangeFunc g ps x y).wpIn Fence.wide n P (fun e a' w' => ae.is e ∧ RelE w0 ok0 st' a' w') a w := by
 obtain ⟨m, ok, r, f0⟩ := r
 have hv := r.op cx 0 g
 rw [hg] at hv
 obtain ⟨v, hv, hp⟩ := hv
 have hp : RepP w ok It.t u' v := by
  obtain ⟨e, rfl⟩ := cast?_out hcu
  subst e
  exact hp
 obtain ⟨⟨fn, fn1, fn2, fn3⟩, hrun⟩ := hcx.it f It hIt
 obtain ⟨xs, hxl, hxr, hit⟩ := hrun u' w ok v r.okb hp
 generalize hL : It.L u' = L at hc hxl hxr
 have hD0 : ¬ ok w.heap.size := fun h => Nat.lt_irrefl _ (r.okb _ h)
 have hl0 : ¬ ok (w.heap.size + 1) := fun h => by have := r.okb _ h; omega
 have hfl : w0.fr (w.heap.size + 1) := r.keep.old (by omega)
 have hfD : w0.fr w.heap.size := r.keep.old (Nat.le_refl _)
 -- at a round: what was done, what is to be done
 let I : Nat → World → Prop := fun k W => ∃ m' ok' s, Rel w0 m' ok' s a W ∧ (∀ b, ok b → ok' b) ∧ (∀ b, ok' b → ok0 b ∨ w0.fr b) ∧ (∀ b, ok b → W.heap[b]? = w.heap[b]?) ∧ ¬ ok' w.heap.size ∧ ¬ ok' (w.heap.size + 1) ∧ RChain P x y ps ae st' ((L.drop k).map (itA It.E)) s
 let Ix : Code → World → Prop := fun c W => ∃ m' ok' s, Rel w0 m' ok' s a W ∧ Ent s st' ∧ (∀ b, ok' b → ok0 b ∨ w0.fr b) ∧ ¬ ok' w.heap.size ∧ ¬ ok' (w.heap.size + 1) ∧ ((∃ i, c = .exit i ∧ ae = .exit i) ∨ (c = .ret ∧ ae = .ret))
 -- marks
 have mark : ∀ {m' : Nat → Value} {ok' : Nat → Prop} {s : St} {W : World}, Rel w0 m' ok' s a W → ¬ ok' w.heap.size → W.heap[w.heap.size]? = some (.deferred (some [])) → (∀ b, ok' b → ok0 b ∨ w0.fr b) → RelE w0 ok0 s { a with defers := mkC w.heap.size :: a.defers } W := by
  intro m' ok' s W rel hno hD hf
  obtain ⟨Ds, e, hn, hh⟩ := rel.defers
  refine ⟨m', ok', ⟨⟨w.heap.size :: Ds, by rw [List.map_cons, e], List.nodup_cons.2 ⟨fun hm => ?_, hn⟩, fun D hDm => ?_⟩, rel.size, rel.env, rel.ob, rel.sep, rel.inj, rel.okb, rel.keep, rel.pins, rel.rfs⟩, hf⟩
  · obtain ⟨Ds0, e0, _, hh0⟩ := r.defers
    have : Ds = Ds0 := by
     have e2 : Ds.map mkC = Ds0.map mkC := by rw [← e, ← e0]
     exact map_mkC e2
    subst this
    have := (Array.getElem?_eq_some_iff.1 (hh0 _ hm).2.2).1
    omega
  · rcases List.mem_cons.1 hDm with rfl | hDm
    · exact ⟨hfD, hno, hD⟩
    · exact hh D hDm
 refine rf_law (okS := ok) hv (fun args W => callFunc_run fn1 fn2 fn3 args W) (fun z hz => ?_) hit r.okb I Ix ?_ ?_ ?_ ?_ ⟨m, ok, st, r, fun _ h => h, f0, fun _ _ => rfl, hD0, hl0, hc⟩ ?_ ?_ ?_
 · obtain ⟨k, hk, rfl⟩ := List.getElem_of_mem hz
   have hkL : k < L.length := by omega
   obtain ⟨e1, _⟩ := hxr k L[k] xs[k] (List.getElem?_eq_getElem hkL) (List.getElem?_eq_getElem hk)
   rw [e1, itA_len]
   cases L with
   | nil => simp at hkL
   | cons y0 L0 =>
    obtain ⟨_, _, _, _, run, _⟩ := hc
    rw [run.1, itA_len]
 · rintro k A o ⟨m', ok', s, rel, h1, h2, h3, h4, h5, h6⟩ ⟨r0, hl⟩
   exact ⟨m', ok', s, rel.poke hl h5 hfl, h1, h2, fun b hb => (World.putObj_heap_other (fun e => hl0 (by rw [← e]; exact hb))).trans (h3 b hb), h4, h5, h6⟩
 · rintro k A B ⟨m', ok', s, rel, h1, h2, h3, h4, h5, h6⟩ hb
   exact ⟨m', ok', s, rel.grow hb, h1, h2, fun b hb' => (hb.block b (rel.okb b (h1 b hb'))).trans (h3 b hb'), h4, h5, h6⟩
 · rintro c A o ⟨m', ok', s, rel, h1, h2, h3, h4, h5⟩ ⟨r0, hl⟩
   exact ⟨m', ok', s, rel.poke hl h4 hfl, h1, h2, h3, h4, h5⟩
 · rintro c A B ⟨m', ok', s, rel, h1, h2, h3, h4, h5⟩ hb
   exact ⟨m', ok', s, rel.grow hb, h1, h2, h3, h4, h5⟩
 · rintro k A rc hk ⟨m', ok', s, rel, h1, h2, h3, h4, h5, h6⟩ hl hD
   have hkL : k < L.length := by omega
   rw [List.drop_eq_getElem_cons hkL, List.map_cons] at h6
   obtain ⟨st1, ae1, s2, hw, run, hcont⟩ := h6
   have hrep : RepIt A ok' (itA It.E L[k]) xs[k] := by
    obtain ⟨e1, e2⟩ := hxr k L[k] xs[k] (List.getElem?_eq_getElem hkL) (List.getElem?_eq_getElem hk)
    refine ⟨e1, fun i z hz => ?_⟩
    obtain ⟨v, hv1, hv2⟩ := e2 i z hz
    exact ⟨v, hv1, fun hp m => (hv2 hp m).mono h3 h1⟩
   have wp := run.2 w0 m' ok' a A (w.heap.size + 1) w.heap.size rc xs[k] n (Weak.rel rel hw) hl hD h5 h4 hfl hrep
   refine wpIn_mono wp ?_
   rintro e a1 A1 h
   cases e <;> first | exact h.elim | skip
   obtain ⟨q1, q2, q3⟩ := h
   refine ⟨q1, fun b hb => q2 b (h1 b hb), wpIn_mono q3 ?_⟩
   rintro e2 a2 W ⟨he, ⟨w1, w2⟩, w3, m5, ok5, rel5, k1, k2, k3, k4⟩
   have hf5 : ∀ b, ok5 b → ok0 b ∨ w0.fr b := fun b hb => (k2 b hb).elim (h2 b) .inr
   cases ae1 with
   | normal =>
    cases e2 <;> first | exact he.elim | skip
    exact ⟨⟨w1, w2⟩, fun b hb => w3 b (h1 b hb), m5, ok5, s2, rel5, fun b hb => k1 b (h1 b hb), hf5, fun b hb => (w3 b (h1 b hb)).trans (h3 b hb), k4, k3, hcont⟩
   | exit i =>
    cases e2 with
    | exit i' =>
     have e3 : i = i' := he
     subst e3
     exact ⟨⟨w1, w2⟩, m5, ok5, s2, rel5, hcont.2, hf5, k4, k3, .inl ⟨i, rfl, hcont.1⟩⟩
    | _ => exact he.elim
   | ret =>
    cases e2 with
    | ret => exact ⟨⟨w1, w2⟩, m5, ok5, s2, rel5, hcont.2, hf5, k4, k3, .inr ⟨rfl, hcont.1⟩⟩
    | _ => exact he.elim
 · rintro W ⟨m', ok', s, rel, h1, h2, h3, h4, h5, h6⟩ hD
   rw [List.drop_eq_nil_of_le (by omega)] at h6
   obtain ⟨rfl, hent⟩ := h6
   exact ⟨trivial, hent _ _ _ _ (mark rel h4 hD h2)⟩
 · rintro c W ⟨m', ok', s, rel, hent, h2, h4, h5, hcase⟩ hD
   have hr := hent _ _ _ _ (mark rel h4 hD h2)
   rcases hcase with ⟨i, rfl, rfl⟩ | ⟨rfl, rfl⟩
   · exact wpIn_exit ⟨rfl, hr⟩
   · exact wpIn_ret ⟨trivial, hr⟩
theorem awp_run (hcx : CxOk P cx) {ct : Cuts} : ∀ (c : Code) (us : Option Nat → (AE → St → Prop) → Prop) (k : Option Nat) (C : (AE → St → Prop) → AE → St → Prop), plansOK ct c = true → (∀ x ∈ lps c, LpOk cx ct us x) → (∀ x ∈ jns cx ct c k C, JnOk cx ct us x) → (∀ x ∈ rfs c, RfOk cx ct x.1 x.2.1 x.2.2) →
 ∀ (U J : AE → St → Prop) (st : St), us k U → J = C U → awp cx ct c U J st → ∃ ae st', J ae st' ∧ RunC P c st ae st' := by
 intro c
 induction c with
 | skip => intro _ _ _ _ _ _ _ U J st _ _ h; exact ⟨.normal, st, h, fun F nn hF w0 ok0 a w r => wpIn_skip ⟨trivial, r⟩⟩
 | region id ops dr =>
  intro _ _ _ hp _ _ _ U J st _ _ h
  cases dr with
  | true =>
   have h : (match lookP id ct.pl with | some p => arun cx ops (J .normal) p st | none => False) := h
   have hp : (match lookP id ct.pl with | some p => Region.noSelect ops && planOK ops (List.replicate ops.size false) p | none => true) = true := hp
   split at h
   · rename_i p hpl
     rw [hpl] at hp
     simp only [Bool.and_eq_true] at hp
     obtain ⟨s', hs, hrun⟩ := arun_run hcx hp.1 p (List.replicate ops.size false) st (by simp) hp.2 h
     refine ⟨.normal, s', hs, fun F nn hF w0 ok0 a w r => wpIn_region_any hcx.mixed (wpAnyIn_of hF.tt hF.nd (fun ⟨_, _, h⟩ => h.1.elim) _ _ _ _ ?_)⟩
     exact hrun w0 ok0 _ ⟨fun a w hr => ⟨trivial, hr⟩, fun c a a' w hq => hq.1.elim⟩ _ _ a _ (by simp) (by simp) (aops_drew r)
   · exact h.elim
  | false =>
   obtain ⟨s', hs, hrun⟩ := aops_fix hcx ops.toList st (show aops cx ops (J .normal) ops.toList st from h)
   exact ⟨.normal, s', hs, fun F nn hF w0 ok0 a w r => wpIn_region_list (wpListIn_of hF.tt (fun ⟨_, _, h⟩ => h.1.elim) _ _ _ hF.nd (hrun w0 ok0 a w _ (fun a w hr => ⟨trivial, hr⟩) r))⟩
 | seq x y ihx ihy =>
  intro us k C hp hl hjn hrf U J st hU hJ h
  have hp : plansOK ct x = true ∧ plansOK ct y = true := by simpa [plansOK] using hp
  have ihx := ihx us k (fun U => seqK (joined (look (rkey x) ct.jn) U (awp cx ct y U)) (C U)) hp.1 (fun z hz => hl z (List.mem_append_left _ hz)) (fun z hz => hjn z (List.mem_append_left _ hz)) (fun z hz => hrf z (List.mem_append_left _ hz))
  have ihy := ihy us k C hp.2 (fun z hz => hl z (List.mem_append_right _ hz)) (fun z hz => hjn z (List.mem_append_right _ (List.mem_cons_of_mem _ hz))) (fun z hz => hrf z (List.mem_append_right _ hz))
  subst hJ
  obtain ⟨ae, s, hj, hrun⟩ := ihx U _ st hU rfl h
  cases ae with
  | normal =>
   have hj : joined (look (rkey x) ct.jn) U (awp cx ct y U) (C U) s := hj
   unfold joined at hj
   have : ∃ s1, Ent s s1 ∧ awp cx ct y U (C U) s1 := by
    split at hj
    · rename_i S hS
      exact hjn ⟨rkey x, y, C, k⟩ (List.mem_append_right _ (List.mem_cons_self ..)) S hS U hU s hj
    · exact ⟨s, Ent.refl s, hj⟩
   obtain ⟨s1, hent, hj⟩ := this
   obtain ⟨ae2, s2, hj2, hrun2⟩ := ihy U _ s1 hU rfl hj
   refine ⟨ae2, s2, hj2, fun F nn hF w0 ok0 a w r => wpIn_seq (wpIn_mono (hrun F nn hF.l w0 ok0 a w r) ?_)⟩
   rintro e a' w' ⟨he, hr⟩
   cases e <;> first | exact he.elim | skip
   exact hrun2 F nn hF.r w0 ok0 a' w' (hent _ _ _ _ hr)
  | exit i =>
   refine ⟨.exit i, s, hj, fun F nn hF w0 ok0 a w r => wpIn_seq (wpIn_mono (hrun F nn hF.l w0 ok0 a w r) ?_)⟩
   rintro e a' w' ⟨he, hr⟩
   cases e <;> first | exact he.elim | exact ⟨he, hr⟩
  | ret =>
   refine ⟨.ret, s, hj, fun F nn hF w0 ok0 a w r => wpIn_seq (wpIn_mono (hrun F nn hF.l w0 ok0 a w r) ?_)⟩
   rintro e a' w' ⟨he, hr⟩
   cases e <;> first | exact he.elim | exact ⟨he, hr⟩
 | cond c x y ihx ihy =>
  intro us k C hp hl hjn hrf U J st hU hJ h
  have hp : plansOK ct x = true ∧ plansOK ct y = true := by simpa [plansOK] using hp
  have ihx := ihx us k C hp.1 (fun z hz => hl z (List.mem_append_left _ hz)) (fun z hz => hjn z (List.mem_append_left _ hz)) (fun z hz => hrf z (List.mem_append_left _ hz))
  have ihy := ihy us k C hp.2 (fun z hz => hl z (List.mem_append_right _ hz)) (fun z hz => hjn z (List.mem_append_right _ hz)) (fun z hz => hrf z (List.mem_append_right _ hz))
  unfold awp at h
  split at h
  · rename_i t
    split at h
    · rename_i b hb
      have hv : ∀ {w0 : Bas} {ok0 : Nat → Prop} {a : Act} {w : World}, RelE w0 ok0 st a w → a.eval (.tmp t) = .bool b := by
       rintro w0 ok0 a w ⟨m, ok, r, f⟩
       have := r.env t
       rw [hb] at this
       exact RepV.bool this
      rcases br_cases h with ⟨e, h⟩ | ⟨e, h⟩
      · rw [← e, put_same (by simp) hb] at h
        obtain ⟨ae, s, hj, hrun⟩ := ihx U J st hU hJ h
        subst e
        exact ⟨ae, s, hj, fun F nn hF w0 ok0 a w r => wpIn_cond_true (hv r) (hrun F nn hF.l w0 ok0 a w r)⟩
      · rw [← e, put_same (by simp) hb] at h
        obtain ⟨ae, s, hj, hrun⟩ := ihy U J st hU hJ h
        subst e
        exact ⟨ae, s, hj, fun F nn hF w0 ok0 a w r => wpIn_cond_false (hv r) (hrun F nn hF.r w0 ok0 a w r)⟩
    · exact h.elim
  · obtain ⟨ae, s, hj, hrun⟩ := ihx U J st hU hJ h
    exact ⟨ae, s, hj, fun F nn hF w0 ok0 a w r => wpIn_cond_true rfl (hrun F nn hF.l w0 ok0 a w r)⟩
  · obtain ⟨ae, s, hj, hrun⟩ := ihy U J st hU hJ h
    exact ⟨ae, s, hj, fun F nn hF w0 ok0 a w r => wpIn_cond_false rfl (hrun F nn hF.r w0 ok0 a w r)⟩
  · exact h.elim
 | block id c ih =>
  intro us k C hp hl hjn hrf U J st hU hJ h
  obtain ⟨ae, s, hj, hrun⟩ := ih us k (fun U => blkK id (C U)) hp hl hjn hrf U _ st hU (by rw [hJ]) h
  cases ae with
  | normal =>
   refine ⟨.normal, s, hj, fun F nn hF w0 ok0 a w r => wpIn_block (wpIn_mono (hrun F nn hF w0 ok0 a w r) ?_)⟩
   rintro e a' w' ⟨he, hr⟩
   cases e <;> first | exact he.elim | exact ⟨trivial, hr⟩
  | exit i =>
   have hj : (bif Nat.beq i id then J .normal s else J (.exit i) s) := hj
   simp only [nbeq] at hj
   by_cases e' : i = id
   · simp only [e', decide_true, cond_true] at hj
     refine ⟨.normal, s, hj, fun F nn hF w0 ok0 a w r => wpIn_block (wpIn_mono (hrun F nn hF w0 ok0 a w r) ?_)⟩
     rintro e a' w' ⟨he, hr⟩
     cases e with
     | exit j =>
      have : i = j := he
      subst this
      subst e'
      show (if i = i then _ else _)
      rw [if_pos rfl]
      exact ⟨trivial, hr⟩
     | _ => exact he.elim
   · simp only [e', decide_false, cond_false] at hj
     refine ⟨.exit i, s, hj, fun F nn hF w0 ok0 a w r => wpIn_block (wpIn_mono (hrun F nn hF w0 ok0 a w r) ?_)⟩
     rintro e a' w' ⟨he, hr⟩
     cases e with
     | exit j =>
      have : i = j := he
      subst this
      show (if i = id then _ else _)
      rw [if_neg e']
      exact ⟨rfl, hr⟩
     | _ => exact he.elim
  | ret =>
   refine ⟨.ret, s, hj, fun F nn hF w0 ok0 a w r => wpIn_block (wpIn_mono (hrun F nn hF w0 ok0 a w r) ?_)⟩
   rintro e a' w' ⟨he, hr⟩
   cases e <;> first | exact he.elim | exact ⟨he, hr⟩
 | loop c ih =>
  intro us k C hp hl hjn hrf U J st hU hJ h
  have ih := fun Q st hq => ih us (some (lkey c)) (fun U => U) hp (fun z hz => hl z (List.mem_cons_of_mem _ hz)) hjn hrf Q Q st hq rfl
  have h : ∃ n, aloop (us (some (lkey c))) (fun Q => awp cx ct c Q Q) n J st := by
   unfold awp at h
   split at h
   · rename_i S hS
     exact hl c (List.mem_cons_self ..) S hS _ _ h
   · exact h.elim
  obtain ⟨n, h⟩ := h
  have key : ∀ (n : Nat) (st : St), aloop (us (some (lkey c))) (fun Q => awp cx ct c Q Q) n J st → ∃ ae st', J ae st' ∧ chain P c ae st' n st := by
   intro n
   induction n with
   | zero => intro st h; exact h.elim
   | succ n ihn =>
    intro st h
    obtain ⟨st1, Q', hent, hus, hQ, hb⟩ := h
    obtain ⟨ae, s, hj, hrun⟩ := ih Q' st1 hus hb
    have := hQ ae s hj
    cases ae with
    | normal =>
     obtain ⟨ae2, s2, hj2, hc⟩ := ihn s this
     exact ⟨ae2, s2, hj2, st1, .normal, s, hent, hrun, hc⟩
    | exit i =>
     obtain ⟨s1, he, hj⟩ := this
     exact ⟨.exit i, s1, hj, st1, .exit i, s, hent, hrun, rfl, he⟩
    | ret =>
     obtain ⟨s1, he, hj⟩ := this
     exact ⟨.ret, s1, hj, st1, .ret, s, hent, hrun, rfl, he⟩
  obtain ⟨ae, st', hj, hc⟩ := key n st h
  exact ⟨ae, st', hj, run_loop hc⟩
 | rangeFunc g ps x y iha ihb =>
  intro us k C hp hl hjn hrf U J st hU hJ h
  have hp : plansOK ct x = true ∧ plansOK ct y = true := by simpa [plansOK] using hp
  obtain ⟨hst, hS⟩ := hrf (x, y, ps) (List.mem_cons_self ..)
  simp only [Bool.and_eq_true] at hst
  obtain ⟨⟨nja, njb⟩, hin⟩ := hst
  unfold awp at h
  split at h
  rotate_left
  · exact h.elim
  rename_i f t u hg
  split at h
  rotate_left
  · exact h.elim
  rename_i It hIt
  split at h
  rotate_left
  · exact h.elim
  rename_i u' hcu
  split at h
  rotate_left
  · exact h.elim
  rename_i S hlk
  have h := hS S hlk _ _ _ _ h
  let us' : Option Nat → (AE → St → Prop) → Prop := fun k U => match k with | none => True | some k => us (some k) U
  have ra : ∀ (J : AE → St → Prop) (s : St), awp cx ct x (fun _ _ => False) J s → ∃ ae s', J ae s' ∧ RunC P x s ae s' := fun J s h =>
   iha us' none (fun _ => J) hp.1 (fun z hz => hl z (List.mem_append_left _ hz)) (noJ_ok x none _ nja) (fun z hz => hrf z (List.mem_cons_of_mem _ (List.mem_append_left _ hz))) _ J s trivial rfl h
  have rb : ∀ (J : AE → St → Prop) (s : St), awp cx ct y J J s → ∃ ae s', J ae s' ∧ RunC P y s ae s' := fun J s h =>
   ihb us' none (fun U => U) hp.2 (fun z hz => hl z (List.mem_append_right _ hz)) (noJ_ok y none _ njb) (fun z hz => hrf z (List.mem_cons_of_mem _ (List.mem_append_right _ hz))) J J s trivial rfl h
  have key : ∀ (l : List (List AV0)) (st : St), arf cx ct x y ps.toList l J st → ∃ ae st', J ae st' ∧ RChain P x y ps ae st' l st := by
   intro l
   induction l with
   | nil => rintro st ⟨s1, he, hj⟩; exact ⟨.normal, s1, hj, rfl, he⟩
   | cons z l ihl =>
    rintro st ⟨st1, inn, outs, K, he, hr, hK⟩
    obtain ⟨ae1, s, hk, run⟩ := rnd_run hcx ra rb hin hr
    have hk := hK _ _ hk
    cases ae1 with
    | normal =>
     obtain ⟨ae, st', hj, hc⟩ := ihl s hk
     exact ⟨ae, st', hj, st1, .normal, s, he, run, hc⟩
    | exit i =>
     obtain ⟨s1, he1, hj⟩ := hk
     exact ⟨.exit i, s1, hj, st1, .exit i, s, he, run, rfl, he1⟩
    | ret =>
     obtain ⟨s1, he1, hj⟩ := hk
     exact ⟨.ret, s1, hj, st1, .ret, s, he, run, rfl, he1⟩
  obtain ⟨ae, st', hj, hc⟩ := key _ _ h
  refine ⟨ae, st', hj, fun F nn hF w0 ok0 a w r => ?_⟩
  have hF : F = Fence.wide := by
   rcases hF with hF | ⟨_, hF⟩
   · exact hF
   · cases hF
  subst hF
  exact rf_run hcx hg hIt hcu hc w0 ok0 a w r
 | exit id => intro _ _ _ _ _ _ _ U J st _ _ h; exact ⟨.exit id, st, h, fun F nn hF w0 ok0 a w r => wpIn_exit ⟨rfl, r⟩⟩
 | ret => intro _ _ _ _ _ _ _ U J st _ _ h; exact ⟨.ret, st, h, fun F nn hF w0 ok0 a w r => wpIn_ret ⟨trivial, r⟩⟩
 | _ => intro _ _ _ _ _ _ _ U J st _ _ h; exact h.elim
def resOne (tmps : Array Value) : ResultVar → Sem Value
 | .tmp t => pure (tmps.getD t undef)
 | .cell x t => do loadVar t (← asAddr (tmps.getD x undef))
theorem results_eq (fn : Func) (tmps : Array Value) : results fn tmps = (do
 let vs ← fn.results.mapM (resOne tmps)
 pure (if h : vs.size = 1 then vs[0] else .tuple vs)) := by
 unfold results
 congr 1
theorem AV0.arg_rep (r : Rel w0 m ok st a w) {q : AV0} {v : Value} (h : RepA0 w ok m st.hp q v) : ∃ ok1 : Nat → Prop, (∀ b, ok1 b → ok b ∨ (∃ id o, fnd id st.hp = some o ∧ blk (m id) = some b)) ∧ ∀ hp m', RepA0 w ok1 m' hp (q.arg st.hp) v := by
 refine ⟨fun b => ok b ∨ (∃ id o, fnd id st.hp = some o ∧ blk (m id) = some b), fun _ h => h, fun hp m' => ?_⟩
 have hv := ro_rep (hp' := []) (ok' := fun b => ok b ∨ (∃ id o, fnd id st.hp = some o ∧ blk (m id) = some b)) r (fun b hb => .inl hb) (fun _ _ h => by simp [fnd] at h) (fun d _ o hf b hb => .inr ⟨d, o, hf, hb⟩) h
 revert hv
 unfold AV0.arg
 cases AV0.ro st.hp q with
 | tv _ _ => exact fun h => h
 | rptr _ _ => exact fun h => h
 | fn _ => exact fun h => h
 | own _ _ _ => exact fun _ => trivial
 | un => exact fun _ => trivial
 | nilp => exact fun h => h
 | sub _ _ _ => exact fun _ => trivial
 | str _ _ _ => exact fun _ => trivial
 | row _ => exact fun _ => trivial
 | ptr _ _ => exact fun _ => trivial
 | elt _ _ _ => exact fun _ => trivial
 | bel _ _ _ _ _ _ => exact fun _ => trivial
 | wbx _ _ _ _ _ => exact fun _ => trivial
 | clo _ _ _ => exact fun h => h
 | glb _ => exact fun h => h
 | gel _ _ => exact fun h => h
theorem arg_not_own {hp : List (Nat × Ob)} {q : AV0} {e : TypeId} {t : Ty} {xs : List t.D} : AV0.arg hp q = .own e t xs → False := by
 unfold AV0.arg
 generalize AV0.ro hp q = r
 cases r <;> simp
theorem ressA_run (h : Here P cx w0 ok0 m ok st a w) : ∀ (rs : List ResultVar) (J : List AV0 → Prop), ressA cx st rs J →
 ∃ (res : List AV0) (us : List Value) (ok' : Nat → Prop), J res ∧ us.length = res.length ∧ (rs.mapM (resOne a.tmps)).run P w = .ok us w ∧
  (∀ b, ok' b → b < w.heap.size ∧ (ok0 b ∨ w0.fr b)) ∧ (cx.own = true → ∀ b, ok' b → ok b) ∧ (∀ (i : Nat) (x : AV0), res[i]? = some x → ∃ u, us[i]? = some u ∧ ∀ hp m, RepA0 w ok' m hp x u) ∧
  ∀ (i : Nat) (e : TypeId) (t : Ty) (xs : List t.D) (u : Value), res[i]? = some (.own e t xs) → us[i]? = some u → cx.own = true ∧ ∃ inner, w.ownsRow 0 e t.size u xs.length inner ∧ RepL (Rep w ok' t) xs inner ∧ ∀ b, blk u = some b → ¬ ok b ∧ w0.fr b
 | [], J, hj => ⟨[], [], fun _ => False, hj, rfl, by simp, fun _ h => h.elim, fun _ _ h => h.elim, fun i x hx => by simp at hx, fun i e t xs u hx => by simp at hx⟩
 | r :: rs, J, hj => by
  simp only [ressA] at hj
  have main : ∀ (y : AV0) (u : Value), (resOne a.tmps r).run P w = .ok u w → (∃ ok1 : Nat → Prop, (∀ b, ok1 b → b < w.heap.size ∧ (ok0 b ∨ w0.fr b)) ∧ (cx.own = true → ∀ b, ok1 b → ok b) ∧ (∀ hp m, RepA0 w ok1 m hp y u) ∧
   ∀ (e : TypeId) (t : Ty) (xs : List t.D), y = .own e t xs → cx.own = true ∧ ∃ inner, w.ownsRow 0 e t.size u xs.length inner ∧ RepL (Rep w ok1 t) xs inner ∧ ∀ b, blk u = some b → ¬ ok b ∧ w0.fr b) → ressA cx st rs (fun l => J (y :: l)) →
   ∃ (res : List AV0) (us : List Value) (ok' : Nat → Prop), J res ∧ us.length = res.length ∧ ((r :: rs).mapM (resOne a.tmps)).run P w = .ok us w ∧
    (∀ b, ok' b → b < w.heap.size ∧ (ok0 b ∨ w0.fr b)) ∧ (cx.own = true → ∀ b, ok' b → ok b) ∧ (∀ (i : Nat) (x : AV0), res[i]? = some x → ∃ u, us[i]? = some u ∧ ∀ hp m, RepA0 w ok' m hp x u) ∧
    ∀ (i : Nat) (e : TypeId) (t : Ty) (xs : List t.D) (u : Value), res[i]? = some (.own e t xs) → us[i]? = some u → cx.own = true ∧ ∃ inner, w.ownsRow 0 e t.size u xs.length inner ∧ RepL (Rep w ok' t) xs inner ∧ ∀ b, blk u = some b → ¬ ok b ∧ w0.fr b := by
   intro y u hrun ⟨ok1, hok1, hown1, hy, hyo⟩ hrest
   obtain ⟨res, us, ok2, hj, hl, hm, hok2, hown2, hr, hro⟩ := ressA_run h rs _ hrest
   refine ⟨y :: res, u :: us, fun b => ok1 b ∨ ok2 b, hj, by simp [hl], ?_, fun b hb => hb.elim (hok1 b) (hok2 b), fun ho b hb => hb.elim (hown1 ho b) (hown2 ho b), fun i x hx => ?_, fun i e t xs u' hx hu => ?_⟩
   · rw [List.mapM_cons]
     simp only [Sem.run_bind, hrun, Result.andThen_ok, hm, Sem.run_pure]
   · cases i with
     | zero => simp at hx; subst hx; exact ⟨u, rfl, fun hp m => RepA0.ok_ (fun b hb => .inl hb) (hy hp m)⟩
     | succ i =>
      obtain ⟨u', hu, hr'⟩ := hr i x (by simpa using hx)
      exact ⟨u', by simpa using hu, fun hp m => RepA0.ok_ (fun b hb => .inr hb) (hr' hp m)⟩
   · cases i with
     | zero =>
      simp at hx hu
      subst hu
      obtain ⟨h0, inner, h1, h2, h3⟩ := hyo e t xs hx
      exact ⟨h0, inner, h1, RepL.imp (fun x c r => r.move (fun _ _ => rfl) (fun b hb => .inl hb)) h2, h3⟩
     | succ i =>
      obtain ⟨h0, inner, h1, h2, h3⟩ := hro i e t xs u' (by simpa using hx) (by simpa using hu)
      exact ⟨h0, inner, h1, RepL.imp (fun x c r => r.move (fun _ _ => rfl) (fun b hb => .inr hb)) h2, h3⟩
  cases r with
  | tmp t =>
   simp only [resA] at hj
   unfold one at hj
   split at hj
   · rename_i q hq
     have hx := h.r.env t
     rw [hq] at hx
     replace hx : RepA0 w ok m st.hp q (a.tmps.getD t undef) := hx
     rcases Bool.eq_false_or_eq_true cx.own with hown | hown
     rotate_left
     · rw [hown, cond_false] at hj
       obtain ⟨ok1, hok1, hy⟩ := AV0.arg_rep h.r hx
       refine main _ _ (by simp [resOne]) ⟨ok1, fun b hb => ?_, (fun e => by rw [hown] at e; cases e), hy, fun e t' xs he => ?_⟩ hj
       · rcases hok1 b hb with hb | ⟨id, o, hf, hb⟩
         · exact ⟨h.r.okb b hb, h.f b hb⟩
         · exact ⟨(h.r.sep id _ b hf hb).2.2, .inr (h.r.sep id _ b hf hb).2.1⟩
       · exact (arg_not_own he).elim
     · rw [hown, cond_true] at hj
       unfold ownRes at hj
       split at hj
       · rename_i id
         split at hj
         · rename_i e t' xs hf
           obtain ⟨inner, h1, h2⟩ := h.r.ob id _ hf
           rw [← hx _ _ _ hf] at h1
           refine main (.own e t' xs) (a.tmps.getD t undef) (by simp [resOne]) ⟨ok, fun b hb => ⟨h.r.okb b hb, h.f b hb⟩, fun _ _ h => h, fun _ _ => trivial, fun e2 t2 xs2 he => ?_⟩ hj
           cases he
           refine ⟨hown, inner, h1, h2, fun b hb => ?_⟩
           rw [hx _ _ _ hf] at hb
           exact ⟨(h.r.sep id _ b hf hb).1, (h.r.sep id _ b hf hb).2.1⟩
         · exact hj.elim
       · refine main (.tv _ _) (a.tmps.getD t undef) (by simp [resOne]) ⟨ok, fun b hb => ⟨h.r.okb b hb, h.f b hb⟩, fun _ _ h => h, fun _ _ => hx, fun e2 t2 xs2 he => by cases he⟩ hj
       · exact hj.elim
   · exact hj.elim
  | cell x T =>
   simp only [resA] at hj
   unfold one at hj
   split at hj
   · rename_i q hq
     have hx := h.r.env x
     rw [hq] at hx
     obtain ⟨y0, u, ad, hj, e, hv, rv⟩ := loadA_run h (show RepA0 w ok m st.hp q (a.tmps.getD x undef) from hx) hj
     obtain ⟨t', y, rfl⟩ : ∃ t' y, y0 = .tv t' y := by cases y0 <;> first | exact ⟨_, _, rfl⟩ | exact hj.elim
     replace hj : ressA cx st rs (fun l => J (.tv t' y :: l)) := hj
     exact main (.tv t' y) u (by simp only [resOne, e, asAddr, Sem.run_bind, Sem.run_pure, Result.andThen_ok, hv]) ⟨ok, fun b hb => ⟨h.r.okb b hb, h.f b hb⟩, fun _ _ h => h, fun _ _ => rv, fun _ _ _ he => by cases he⟩ hj
   · exact hj.elim
theorem tupV_eq (us : List Value) : (if h : us.toArray.size = 1 then us.toArray[0] else .tuple us.toArray) = tupV us := by
 match us with
 | [] => rfl
 | [u] => rfl
 | u :: v :: us => simp [tupV]
theorem det_res (r : ResultVar) : DetK (resA cx st r) := by
 cases r with
 | tmp t =>
  refine det_one (F := fun a K => bif cx.own then ownRes st a K else K (a.arg st.hp)) fun x => DetK.cond ?_ (DetK.one _)
  intro K h
  unfold ownRes at h ⊢
  split at h
  · split at h
    · rename_i e t xs hf
      exact ⟨_, h, fun K' hk => by first | exact hk | (simp only [hf]; exact hk)⟩
    · exact h.elim
  · exact ⟨_, h, fun K' hk => hk⟩
  · exact h.elim
 | cell x T => exact det_one fun a => DetK.bind (G := fun v K => tvK K v) det_load fun v => by cases v <;> first | exact DetK.one _ | exact DetK.nil
theorem det_ress : ∀ (rs : List ResultVar), DetK (ressA cx st rs)
 | [] => DetK.one _
 | r :: rs => DetK.bind (F := resA cx st r) (G := fun a K => ressA cx st rs fun l => K (a :: l)) (det_res r) fun a => DetK.bind (F := ressA cx st rs) (G := fun l K => K (a :: l)) (det_ress rs) fun l => DetK.one _
theorem fn_det (hcx : CxOk P cx) {n : FuncId} {fn : Func} (hf : P.funcs[n]? = some fn) {F : List AV0 → (List AV0 → Prop) → Prop}
 (hF : ∀ args J, F args J → ∃ ct us U, (∀ c, fn.body = some c → plansOK ct c = true ∧ (∀ x ∈ lps c, LpOk cx ct us x) ∧ (∀ x ∈ jns cx ct c none (fun U => U), JnOk cx ct us x) ∧ ∀ x ∈ rfs c, RfOk cx ct x.1 x.2.1 x.2.2) ∧ us none U ∧ (∀ e s, U e s → ∃ s1, Ent s s1 ∧ endK cx fn J e s1) ∧ ∃ c, fn.body = some c ∧ awp cx ct c U U (initA fn.ntmps args)) :
 ∀ args J, F args J → ∃ res, J res ∧ FnOK P n (fun a J' => a = args ∧ J' res) := by
 intro args J hJ
 obtain ⟨ct, us, U, hct, hU, hUe, c, hb, h⟩ := hF args J hJ
 obtain ⟨hpl, hl, hj⟩ := hct c hb
 obtain ⟨ae, st', hj', hrun⟩ := awp_run hcx c us none (fun U => U) hpl hl hj.1 hj.2 U U _ hU rfl h
 obtain ⟨s1, hent, hend⟩ := hUe ae st' hj'
 have hne : ressA cx s1 fn.results.toList J ∧ ∀ i, ae ≠ .exit i := by
  cases ae with
  | normal => exact ⟨hend, fun i e => by cases e⟩
  | exit i => exact hend.elim
  | ret => exact ⟨hend, fun i e => by cases e⟩
 obtain ⟨hres, hne⟩ := hne
 obtain ⟨res, hJres, hfix⟩ := det_ress fn.results.toList J hres
 refine ⟨res, hJres, ?_⟩
 rintro args' J' ⟨rfl, hJ'⟩ w ok vals glo hok hlen hargs
 have hrel : RelE ⟨w, fun _ => False, fun _ => none, glo⟩ ok (initA fn.ntmps args') { tmps := vals.toArray ++ Array.replicate (fn.ntmps - vals.toArray.size) undef, defers := [] } w := by
  refine ⟨fun _ => undef, ok, ⟨Marks.nil, by simp [initA, hlen], fun i => ?_, fun id o hf => by simp [initA, fnd] at hf, fun id o b hf => by simp [initA, fnd] at hf, fun i i' o o' b hf => by simp [initA, fnd] at hf, hok, Kept.refl _, (fun id v hv => by cases hv), fun id off hu => (hu rfl).elim⟩, fun b hb => .inl hb⟩
  show RepA w ok _ [] (fndE i (initE 0 args')) _
  have hE : ∀ (l : List AV0) (k i : Nat), fndE (k + i) (initE k l) = match l[i]? with | some a => .v a | none => .v .un := by
   intro l
   induction l with
   | nil => intro k i; simp [initE, fndE]
   | cons a l ih =>
    intro k i
    simp only [initE, fndE, nbeq]
    cases i with
    | zero => simp
    | succ i =>
     have : ¬ k = k + (i + 1) := by omega
     simp only [this, decide_false, cond_false]
     rw [show k + (i + 1) = (k + 1) + i by omega, ih (k + 1) i]
     simp
  have hi := hE args' 0 i
  rw [Nat.zero_add] at hi
  rw [hi]
  rcases Nat.lt_or_ge i args'.length with hi | hi
  · obtain ⟨v, hv, hr⟩ := hargs i args'[i] (List.getElem?_eq_getElem hi)
    have hiv : i < vals.length := by omega
    rw [List.getElem?_eq_getElem hi]
    rw [Array.getD_eq_getD_getElem?, Array.getElem?_append_left (by simpa using hiv)]
    rw [List.getElem?_toArray, hv]
    exact hr _ _
  · rw [List.getElem?_eq_none hi]; trivial
 refine callsIn_wide.1 (callsIn_of_wp_marks (n := 0) hf hb trivial (wpIn_mono (hrun Fence.wide 0 Wd.wide ⟨w, fun _ => False, fun _ => none, glo⟩ ok _ w hrel) ?_))
 rintro e a' w' ⟨he, hr⟩
 obtain ⟨m, ok', r, f⟩ := hent _ _ _ _ hr
 have fin := r.leaves (n := 0) (P := P) (fn := fn) (R := fun e w' => ∃ (res : List AV0) (us : List Value) (v' : Value) (okr : Nat → Prop), J' res ∧ e = .returned v' ∧ Below w.heap.size w w' ∧ us.length = res.length ∧ v' = tupV us ∧
  (∀ b, okr b → ok b ∨ (w.heap.size ≤ b ∧ b < w'.heap.size)) ∧ (∀ (i : Nat) (x : AV0), res[i]? = some x → ∃ u, us[i]? = some u ∧ ∀ hp m, RepA0 w' okr m hp x u) ∧
  ∀ (i : Nat) (e : TypeId) (t : Ty) (xs : List t.D) (u : Value), res[i]? = some (.own e t xs) → us[i]? = some u → ∃ inner, w'.ownsRow 0 e t.size u xs.length inner ∧ RepL (Rep w' okr t) xs inner ∧ ∀ b, blk u = some b → ¬ okr b ∧ w.heap.size ≤ b) fun w' r => by
  obtain ⟨res, us, ok2, hj, hl, hm, hok2, hown2, hr, hro⟩ := ressA_run ⟨hcx, r, f⟩ _ _ (hfix J' hJ')
  refine ⟨tupV us, ?_, res, us, tupV us, ok2, hj, rfl, ⟨r.keep.os, r.keep.tape, r.keep.output, r.keep.size, fun k hk => r.keep.block k hk id⟩, hl, rfl, fun b hb => ?_, hr, fun i e t xs u hx hu => ?_⟩
  · rw [results_eq, Array.mapM_eq_mapM_toList]
    simp only [Sem.run_bind, Sem.run_map, hm, Result.andThen_ok, Sem.run_pure]
    rw [← tupV_eq us]
  · obtain ⟨h1, h2⟩ := hok2 b hb
    exact h2.elim .inl (fun h2 => .inr ⟨h2.elim id False.elim, h1⟩)
  · obtain ⟨h0, inner, h1, h2, h3⟩ := hro i e t xs u hx hu
    exact ⟨inner, h1, h2, fun b hb => ⟨fun hk => (h3 b hb).1 (hown2 h0 b hk), (h3 b hb).2.elim id False.elim⟩⟩
 cases ae with
 | normal => cases e <;> first | exact he.elim | exact fin
 | exit i => exact (hne i rfl).elim
 | ret => cases e <;> first | exact he.elim | exact fin
theorem det_resS (r : ResultVar) : DetK (resSA cx st r) := by
 cases r with
 | tmp t => exact det_one (F := fun a K => K a) fun x => DetK.one _
 | cell x T => exact det_one fun a => DetK.bind (G := fun v K => tvK K v) det_load fun v => by cases v <;> first | exact DetK.one _ | exact DetK.nil
theorem det_ressS : ∀ (rs : List ResultVar), DetK (ressSA cx st rs)
 | [] => DetK.one _
 | r :: rs => DetK.bind (F := resSA cx st r) (G := fun a K => ressSA cx st rs fun l => K (a :: l)) (det_resS r) fun a => DetK.bind (F := ressSA cx st rs) (G := fun l K => K (a :: l)) (det_ressS rs) fun l => DetK.one _
theorem ressS_run (h : Here P cx w0 ok0 m ok st a w) : ∀ (rs : List ResultVar) (J : List AV0 → Prop), ressSA cx st rs J →
 ∃ (l : List AV0) (us : List Value), J l ∧ us.length = l.length ∧ l.length = rs.length ∧ (rs.mapM (resOne a.tmps)).run P w = .ok us w ∧ ∀ (i : Nat) (x : AV0), l[i]? = some x → ∃ u, us[i]? = some u ∧ RepA0 w ok m st.hp x u
 | [], J, hj => ⟨[], [], hj, rfl, rfl, by simp, fun i x hx => by simp at hx⟩
 | r :: rs, J, hj => by
  simp only [ressSA] at hj
  have main : ∀ (y : AV0) (u : Value), (resOne a.tmps r).run P w = .ok u w → RepA0 w ok m st.hp y u → ressSA cx st rs (fun l => J (y :: l)) →
   ∃ (l : List AV0) (us : List Value), J l ∧ us.length = l.length ∧ l.length = (r :: rs).length ∧ ((r :: rs).mapM (resOne a.tmps)).run P w = .ok us w ∧ ∀ (i : Nat) (x : AV0), l[i]? = some x → ∃ u, us[i]? = some u ∧ RepA0 w ok m st.hp x u := by
   intro y u hrun hy hrest
   obtain ⟨l, us, hj, hl, hl2, hm, hr⟩ := ressS_run h rs _ hrest
   refine ⟨y :: l, u :: us, hj, by simp [hl], by simp [hl2], ?_, fun i x hx => ?_⟩
   · rw [List.mapM_cons]
     simp only [Sem.run_bind, hrun, Result.andThen_ok, hm, Sem.run_pure]
   · cases i with
     | zero => simp at hx; subst hx; exact ⟨u, rfl, hy⟩
     | succ i => simpa using hr i x (by simpa using hx)
  cases r with
  | tmp t =>
   simp only [resSA] at hj
   unfold one at hj
   split at hj
   · rename_i q hq
     have hx := h.r.env t
     rw [hq] at hx
     exact main q _ (by simp [resOne]) hx hj
   · exact hj.elim
  | cell x T =>
   simp only [resSA] at hj
   unfold one at hj
   split at hj
   · rename_i q hq
     have hx := h.r.env x
     rw [hq] at hx
     obtain ⟨y0, u, ad, hj, e, hv, rv⟩ := loadA_run h (show RepA0 w ok m st.hp q (a.tmps.getD x undef) from hx) hj
     obtain ⟨t', y, rfl⟩ : ∃ t' y, y0 = .tv t' y := by cases y0 <;> first | exact ⟨_, _, rfl⟩ | exact hj.elim
     exact main (.tv t' y) u (by simp only [resOne, e, asAddr, Sem.run_bind, Sem.run_pure, Result.andThen_ok, hv]) rv hj
   · exact hj.elim
theorem renTo_n {inn : Sk} {id d : Nat} {st : St} : (renTo inn id d st).n = st.n := by
 unfold renTo
 cases Nat.beq id d with
 | true => rfl
 | false =>
  simp only [cond_false]
  split
  · rfl
  · split
    · unfold St.ren0; split <;> rfl
    · rfl
theorem canE_n {inn : Sk} : ∀ {l : List (Nat × SkV)} {st : St}, (canE inn l st).n = st.n
 | [], _ => rfl
 | (i, v) :: r, st => by
  cases v <;> simp only [canE] <;> first | exact canE_n | (split <;> first | exact canE_n | exact canE_n.trans renTo_n)
theorem canR_n {inn : Sk} : ∀ {l : List ((Nat × Nat) × Nat)} {st : St}, (canR inn l st).n = st.n
 | [], _ => rfl
 | p :: r, st => by
  simp only [canR]
  split <;> first | exact canR_n | exact canR_n.trans renTo_n
theorem outS_n {inn out : Sk} {l : List AV0} {st : St} : (outS inn out l st).n = l.length := by
 unfold outS; rw [canR_n, canE_n]
theorem Sk.rd_n {k : Sk} {st : St} {x : k.D} (h : k.rd st = some x) : st.n = k.n := by
 unfold Sk.rd at h
 split at h
 · cases hn : Nat.beq k.n st.n with
   | true => exact (Nat.eq_of_beq_eq_true hn).symm
   | false => rw [hn] at h; cases h
 · cases h
theorem fnS_det (hcx : CxOk P cx) {n : FuncId} {fn : Func} (hf : P.funcs[n]? = some fn) {S : SFn} (hst : stOK S.inn fn = true)
 (hF : ∀ x J, S.F x J → ∃ ct us U, (∀ c, fn.body = some c → plansOK ct c = true ∧ (∀ x ∈ lps c, LpOk cx ct us x) ∧ (∀ x ∈ jns cx ct c none (fun U => U), JnOk cx ct us x) ∧ ∀ x ∈ rfs c, RfOk cx ct x.1 x.2.1 x.2.2) ∧ us none U ∧ (∀ e s, U e s → ∃ s1, Ent s s1 ∧ endS cx fn S.inn S.out J e s1) ∧ ∃ c, fn.body = some c ∧ awp cx ct c U U (iniS S.inn fn.ntmps x)) :
 ∀ x J, S.F x J → ∃ i y, J i y ∧ FnS P n ⟨S.inn, S.out, fun x' J' => x' = x ∧ J' i y⟩ := by
 intro x J hJ
 obtain ⟨ct, us, U, hct, hU, hUe, c, hb, h⟩ := hF x J hJ
 obtain ⟨hpl, hl, hj⟩ := hct c hb
 obtain ⟨ae, st', hj', hrun⟩ := awp_run hcx c us none (fun U => U) hpl hl hj.1 hj.2 U U _ hU rfl h
 obtain ⟨s1, hent, hend⟩ := hUe ae st' hj'
 have hne : ressSA cx s1 fn.results.toList (fun l => (S.out (shp l)).as (outS S.inn (S.out (shp l)) l s1) (J (shp l))) ∧ ∀ i, ae ≠ .exit i := by
  cases ae with
  | normal => exact ⟨hend, fun i e => by cases e⟩
  | exit i => exact hend.elim
  | ret => exact ⟨hend, fun i e => by cases e⟩
 obtain ⟨hress, hne⟩ := hne
 obtain ⟨l, hl1, hfix⟩ := det_ressS fn.results.toList _ hress
 unfold Sk.as at hl1
 split at hl1
 rotate_left
 · exact hl1.elim
 rename_i y hy
 refine ⟨shp l, y, hl1, ?_⟩
 intro x0 J' hh w m ok vals glo r
 obtain ⟨e0, hJ'⟩ := hh
 have r : Rel (entB S.inn m w glo) m ok (S.inn.mk' x) (actOf vals) w := by
  have e1 : x0 = x := e0
  rw [← e1]; exact r
 have hst : ∀ id, pinS S.inn id = true → S.inn.n + fn.ntmps ≤ id ∧ fn.results.size ≤ id := fun id hp => by
  obtain ⟨o, hT⟩ := pinS_lk hp
  have := List.all_eq_true.1 (show (S.inn.hp.all _) = true from hst) _ (lkO_mem hT)
  rw [hp] at this
  simpa [Nat.ble_eq] using this
 have hsz : vals.length = S.inn.n := by
  have := r.size
  simpa [actOf, Sk.mk'] using this
 have hrel : RelE (entB S.inn m w glo) ok (iniS S.inn fn.ntmps x) { tmps := vals.toArray ++ Array.replicate (fn.ntmps - vals.toArray.size) undef, defers := [] } w := by
  refine ⟨m, ok, ⟨Marks.nil, by simp [iniS, hsz], fun i => ?_, r.ob, r.sep, r.inj, r.okb, r.keep, fun id v hv => ⟨?_, (r.pins id v hv).2⟩, r.rfs⟩, fun b hb => .inl hb⟩
  · have he := r.env i
    have e : (vals.toArray ++ Array.replicate (fn.ntmps - vals.toArray.size) undef).getD i undef = (actOf vals).tmps.getD i undef := by
     simp only [actOf, Array.getD_eq_getD_getElem?]
     rcases Nat.lt_or_ge i vals.length with h1 | h1
     · rw [Array.getElem?_append_left (by simpa using h1)]
     · rw [Array.getElem?_append_right (by simpa using h1)]
       rw [show vals.toArray[i]? = none from by simpa using h1]
       rw [Array.getElem?_replicate]
       split <;> rfl
    show RepA w ok m (S.inn.mk' x).hp ((S.inn.mk' x).get i) _
    rw [e]; exact he
  · have := (hst _ (entB_pin hv).1).1
    simp only [iniS]
    show S.inn.n + (fn.ntmps - S.inn.n) ≤ id
    have h2 : S.inn.n + fn.ntmps ≤ id := this
    omega
 refine callsIn_wide.1 (callsIn_of_wp_marks (n := 0) hf hb trivial (wpIn_mono (hrun Fence.wide 0 Wd.wide (entB S.inn m w glo) ok _ w hrel) ?_))
 rintro e a' w' ⟨he, hr⟩
 obtain ⟨m1, ok', r1, f⟩ := hent _ _ _ _ hr
 have fin := r1.leaves (n := 0) (P := P) (fn := fn) (R := fun e w' => ∃ (i : Nat) (y : (S.out i).D) (us : List Value), J' i y ∧ e = .returned (tupV us) ∧ us.length = (S.out i).n ∧ RelE (entB S.inn m w glo) ok ((S.out i).mk' y) (actOf us) w') fun w' r1 => by
  obtain ⟨l', us, hj, hl2, hl3, hm, hrr⟩ := ressS_run ⟨hcx, r1, f⟩ _ _ (hfix (fun l' => l' = l) rfl)
  subst hj
  have hln : l'.length = (S.out (shp l')).n := by rw [← Sk.rd_n hy, outS_n]
  have r2 : Rel (entB S.inn m w glo) m1 ok' { env := initE 0 l', hp := s1.hp, n := l'.length, rf := s1.rf } (actOf us) w' := by
   refine ⟨Marks.nil, by simp [actOf, hl2], fun i => ?_, r1.ob, r1.sep, r1.inj, r1.okb, r1.keep, fun id v hv => ⟨?_, (r1.pins id v hv).2⟩, r1.rfs⟩
   · show RepA w' ok' m1 s1.hp (fndE i (initE 0 l')) (us.toArray.getD i undef)
     have hi := fndE_init l' 0 i
     rw [Nat.zero_add] at hi
     rw [hi]
     cases hx : l'[i]? with
     | none => trivial
     | some q =>
      obtain ⟨u, h1, h2⟩ := hrr i q hx
      show RepA0 w' ok' m1 s1.hp q _
      rw [Array.getD_eq_getD_getElem?, List.getElem?_toArray, h1]
      exact h2
   · have h2 : fn.results.size ≤ id := (hst _ (entB_pin hv).1).2
     show l'.length ≤ id
     rw [hl3]; simpa using h2
  obtain ⟨m3, r3⟩ := canE_run (S.out (shp l')).env r2
  obtain ⟨m4, r4⟩ := canR_run (S.out (shp l')).rf r3
  have r5 : RelE (entB S.inn m w glo) ok (outS S.inn (S.out (shp l')) l' s1) (actOf us) w' := ⟨m4, ok', r4, f⟩
  refine ⟨tupV us, ?_, shp l', y, us, hJ', rfl, by rw [hl2, hln], Sk.rd_ent hy _ _ _ _ r5⟩
  rw [results_eq, Array.mapM_eq_mapM_toList]
  simp only [Sem.run_bind, Sem.run_map, hm, Result.andThen_ok, Sem.run_pure]
  rw [← tupV_eq us]
 cases ae with
 | normal => cases e <;> first | exact he.elim | exact fin
 | exit i => exact (hne i rfl).elim
 | ret => cases e <;> first | exact he.elim | exact fin
end
end Go.Iv
