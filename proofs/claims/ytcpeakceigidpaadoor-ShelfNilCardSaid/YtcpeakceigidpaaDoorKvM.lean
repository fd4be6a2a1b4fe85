/- Operations that leave all objects alone, in any order: it comes to the same. -/
import Derived.Test.YtcpeakceigidpaaDoorKvL
set_option linter.all false
namespace Go.Iv
open Go.RowKit
variable [GL]
theorem put_get {st : St} {d : Option Tmp} {x : AV} {t : Nat} : (st.put d x).get t = if d = some t ∧ t < st.n then x else st.get t := by
 cases d with
 | none => simp [St.put]
 | some d =>
  show fndE t (setE st.n d x st.env) = _
  rw [fndE_set]
  by_cases h : d = t
  · subst h; simp [St.get]
  · simp [h, St.get]
theorem put_len {st : St} {d : Option Tmp} {x : AV} : (st.put d x).n = st.n := by cases d <;> rfl
theorem put_hp {st : St} {d : Option Tmp} {x : AV} : (st.put d x).hp = st.hp := by cases d <;> rfl
theorem put_same {st : St} {t : Tmp} {x : AV0} (hx : x ≠ .un) (h : st.get t = .v x) : st.put (some t) (.v x) = st := by
 obtain ⟨e, hp, n, rf⟩ := st
 show (⟨setE n t (.v x) e, hp, n, rf⟩ : St) = _
 have : setE n t (.v x) e = e := by
  unfold setE
  cases Nat.blt t n
  · rfl
  · exact insE_same (fun e => hx (AV.v.inj e)) h
 rw [this]
theorem eff_len {st : St} {d : Option Tmp} {x : AV} {c : Option Ob} : (eff st d x c).n = st.n := by
 cases c with
 | none => exact put_len
 | some o => cases d <;> rfl
theorem eff_get {st : St} {d : Option Tmp} {x : AV} {c : Option Ob} {t : Nat} : (eff st d x c).get t = if d = some t ∧ t < st.n then x else st.get t := by
 cases c with
 | none => exact put_get
 | some o =>
  cases d with
  | none => simp [eff]
  | some d =>
   show fndE t (setE st.n d x st.env) = _
   rw [fndE_set]
   by_cases h : d = t
   · subst h; simp [St.get]
   · simp [h, St.get]
theorem eff_fnd {st : St} {d : Option Tmp} {x : AV} {c : Option Ob} {id : Nat} : fnd id (eff st d x c).hp = if d = some id ∧ c.isSome = true then c else fnd id st.hp := by
 cases c with
 | none => simp [eff, put_hp]
 | some o =>
  cases d with
  | none => simp [eff]
  | some d =>
   simp only [eff, fnd_ins, Option.isSome_some, and_true, Option.some.injEq]
   by_cases h : id = d
   · subst h; simp
   · have : ¬ d = id := fun e => h e.symm
     simp [h, this]
theorem put_rf {st : St} {d : Option Tmp} {x : AV} : (st.put d x).rf = st.rf := by cases d <;> rfl
theorem eff_rf {st : St} {d : Option Tmp} {x : AV} {c : Option Ob} : (eff st d x c).rf = st.rf := by
 cases c with
 | none => exact put_rf
 | some o => cases d <;> rfl
theorem needs_spec {o : Oper} {p : Nat → Bool} : (needsOf o).all p = true ↔ ∀ e ∈ o.after, Region.binds .any e = true → p e.on = true := by
 simp only [needsOf, List.all_map, List.all_filter, List.all_eq_true, Array.mem_toList_iff, Function.comp, Bool.or_eq_true, Bool.not_eq_true']
 constructor
 · intro h e he hb
   have := h e he
   simpa [hb] using this
 · intro h e he
   cases hb : Region.binds .any e with
   | false => simp
   | true => simp [h e he hb]
theorem readyL_spec {ops : Array Oper} {listed : Array Bool} {i : Nat} : i ∈ readyL ops listed.toList ↔ i ∈ Region.ready .any ops listed := by
 rw [mem_ready]
 unfold readyL
 rw [List.mem_filter, List.mem_range]
 have gd : ∀ j b, listed.toList.getD j b = listed.getD j b := fun j b => by simp [Array.getD_eq_getD_getElem?, List.getD_eq_getElem?_getD]
 cases ho : ops[i]? with
 | none => simp
 | some o =>
  have hlt : i < ops.size := (Array.getElem?_eq_some_iff.1 ho).1
  simp only [hlt, true_and, Bool.and_eq_true, Bool.not_eq_true', gd, needs_spec, Option.some.injEq, exists_eq_left']
theorem readyL_nil {ops : Array Oper} {listed : Array Bool} (h : readyL ops listed.toList = []) : Region.ready .any ops listed = [] := by
 cases hr : Region.ready .any ops listed with
 | nil => rfl
 | cons i r =>
  have : i ∈ readyL ops listed.toList := readyL_spec.2 (by rw [hr]; simp)
  rw [h] at this; simp at this
def effS (ops : Array Oper) (v : Nat → AV × Option Ob) (S : Nat → Bool) : List Nat → St → St
 | [], st => st
 | i :: r, st => effS ops v S r (if S i = true then eff st (dstOf ops i) (v i).1 (v i).2 else st)
section
variable {P : Program} {cx : Cx} {ops : Array Oper} {v : Nat → AV × Option Ob} {S : Nat → Bool} {st : St}
theorem effS_len : ∀ {I : List Nat} {st : St}, (effS ops v S I st).n = st.n
 | [], _ => rfl
 | i :: r, st => by
  unfold effS
  rw [effS_len (I := r)]
  split
  · exact eff_len
  · rfl
theorem effS_no {t : Nat} : ∀ {I : List Nat} {st : St}, (∀ i ∈ I, S i = true → dstOf ops i ≠ some t) → (effS ops v S I st).get t = st.get t
 | [], _, _ => rfl
 | i :: r, st, h => by
  unfold effS
  rw [effS_no (I := r) (fun j hj => h j (List.mem_cons_of_mem _ hj))]
  split
  · rename_i hs
    rw [eff_get, if_neg (fun e => h i (List.mem_cons_self ..) hs e.1)]
  · rfl
theorem effS_yes {t i : Nat} (hd : dstOf ops i = some t) (hs : S i = true) : ∀ {I : List Nat} {st : St}, i ∈ I → t < st.n → (I.filterMap (dstOf ops)).Nodup → (effS ops v S I st).get t = (v i).1
 | [], _, h, _, _ => by simp at h
 | j :: r, st, h, hl, hn => by
  unfold effS
  by_cases hj : j = i
  · subst hj
    rw [List.filterMap_cons_some hd] at hn
    rw [effS_no (I := r), if_pos hs, eff_get, if_pos ⟨hd, hl⟩]
    intro k hk _ e
    exact (List.nodup_cons.1 hn).1 (List.mem_filterMap.2 ⟨k, hk, e⟩)
  · have hi : i ∈ r := (List.mem_cons.1 h).resolve_left (fun e => hj e.symm)
    refine effS_yes hd hs hi ?_ ?_
    · split
      · rw [eff_len]; exact hl
      · exact hl
    · cases hdj : dstOf ops j with
      | none => rwa [List.filterMap_cons_none hdj] at hn
      | some d => rw [List.filterMap_cons_some hdj] at hn; exact (List.nodup_cons.1 hn).2
theorem effS_rf : ∀ {I : List Nat} {st : St}, (effS ops v S I st).rf = st.rf
 | [], _ => rfl
 | i :: r, st => by
  unfold effS
  rw [effS_rf (I := r)]
  split
  · exact eff_rf
  · rfl
theorem effS_fno {id : Nat} : ∀ {I : List Nat} {st : St}, (∀ i ∈ I, S i = true → (v i).2.isSome = true → dstOf ops i ≠ some id) → fnd id (effS ops v S I st).hp = fnd id st.hp
 | [], _, _ => rfl
 | i :: r, st, h => by
  unfold effS
  rw [effS_fno (I := r) (fun j hj => h j (List.mem_cons_of_mem _ hj))]
  split
  · rename_i hs
    rw [eff_fnd, if_neg (fun e => h i (List.mem_cons_self ..) hs e.2 e.1)]
  · rfl
theorem effS_fyes {id i : Nat} (hd : dstOf ops i = some id) (hs : S i = true) (hc : (v i).2.isSome = true) : ∀ {I : List Nat} {st : St}, i ∈ I → (I.filterMap (dstOf ops)).Nodup → fnd id (effS ops v S I st).hp = (v i).2
 | [], _, h, _ => by simp at h
 | j :: r, st, h, hn => by
  unfold effS
  by_cases hj : j = i
  · subst hj
    rw [List.filterMap_cons_some hd] at hn
    rw [effS_fno (I := r), if_pos hs, eff_fnd, if_pos ⟨hd, hc⟩]
    intro k hk _ _ e
    exact (List.nodup_cons.1 hn).1 (List.mem_filterMap.2 ⟨k, hk, e⟩)
  · have hi : i ∈ r := (List.mem_cons.1 h).resolve_left (fun e => hj e.symm)
    refine effS_fyes hd hs hc hi ?_
    cases hdj : dstOf ops j with
    | none => rwa [List.filterMap_cons_none hdj] at hn
    | some d => rw [List.filterMap_cons_some hdj] at hn; exact (List.nodup_cons.1 hn).2
theorem effS_congr {v' : Nat → AV × Option Ob} {S' : Nat → Bool} : ∀ {I : List Nat} {st : St}, (∀ i ∈ I, S i = S' i ∧ (S i = true → v i = v' i)) → effS ops v S I st = effS ops v' S' I st
 | [], _, _ => rfl
 | i :: r, st, h => by
  unfold effS
  obtain ⟨h1, h2⟩ := h i (List.mem_cons_self ..)
  rw [effS_congr (I := r) (fun j hj => h j (List.mem_cons_of_mem _ hj)), ← h1]
  by_cases hs : S i = true
  · rw [if_pos hs, if_pos hs, h2 hs]
  · rw [if_neg hs, if_neg hs]
theorem effS_out {t : Nat} (h : ¬ t < st.n) : ∀ {I : List Nat} {st1 : St}, st1.n = st.n → (effS ops v S I st1).get t = st1.get t
 | [], _, _ => rfl
 | i :: r, st1, hn => by
  unfold effS
  have : ∀ s : St, s.n = st.n → (effS ops v S r s).get t = s.get t := fun s hs => effS_out h hs
  split
  · rw [this _ (by rw [eff_len]; exact hn), eff_get, if_neg (fun e => h (by rw [← hn]; exact e.2))]
  · exact this _ hn
theorem effS_add {i : Nat} {I : List Nat} {st : St} (hi : i ∈ I) (hs : S i = false) (hn : (I.filterMap (dstOf ops)).Nodup) (hl : ∀ j ∈ I, ∃ d, dstOf ops j = some d) :
 Sim (eff (effS ops v S I st) (dstOf ops i) (v i).1 (v i).2) (effS ops v (fun j => S j || j == i) I st) := by
 obtain ⟨d, hd⟩ := hl i hi
 refine ⟨by rw [eff_len, effS_len, effS_len], fun t => ?_, fun id => ?_, fun id off => by rw [eff_rf, effS_rf, effS_rf]⟩
 · by_cases htl : t < st.n
   rotate_left
   · rw [eff_get, if_neg (fun e => htl (by rw [← effS_len (st := st)]; exact e.2)), effS_out htl rfl, effS_out htl rfl]
   rw [eff_get, effS_len]
   by_cases ht : d = t
   · subst ht
     rw [if_pos ⟨hd, htl⟩, effS_yes hd (by simp) hi htl hn]
   · rw [if_neg (fun e => ht (by rw [hd] at e; exact Option.some.inj e.1))]
     by_cases hj : ∃ j ∈ I, S j = true ∧ dstOf ops j = some t
     · obtain ⟨j, hjI, hjS, hjd⟩ := hj
       rw [effS_yes hjd hjS hjI htl hn, effS_yes hjd (by simp [hjS]) hjI htl hn]
     · rw [effS_no, effS_no]
       · intro j hjI hjS e
         simp only [Bool.or_eq_true, beq_iff_eq] at hjS
         rcases hjS with h | rfl
         · exact hj ⟨j, hjI, h, e⟩
         · rw [hd] at e; exact ht (Option.some.inj e)
       · intro j hjI hjS e
         exact hj ⟨j, hjI, hjS, e⟩
 · rw [eff_fnd]
   by_cases ht : d = id ∧ (v i).2.isSome = true
   · obtain ⟨rfl, hc⟩ := ht
     rw [if_pos ⟨hd, hc⟩, effS_fyes hd (by simp) hc hi hn]
   · rw [if_neg (fun e => ht ⟨by rw [hd] at e; exact Option.some.inj e.1, e.2⟩)]
     by_cases hj : ∃ j ∈ I, S j = true ∧ (v j).2.isSome = true ∧ dstOf ops j = some id
     · obtain ⟨j, hjI, hjS, hjc, hjd⟩ := hj
       rw [effS_fyes hjd hjS hjc hjI hn, effS_fyes hjd (by simp [hjS]) hjc hjI hn]
     · rw [effS_fno, effS_fno]
       · intro j hjI hjS hjc e
         simp only [Bool.or_eq_true, beq_iff_eq] at hjS
         rcases hjS with h | rfl
         · exact hj ⟨j, hjI, h, hjc, e⟩
         · rw [hd] at e; exact ht ⟨Option.some.inj e, hjc⟩
       · intro j hjI hjS hjc e
         exact hj ⟨j, hjI, hjS, hjc, e⟩
def Stp (P : Program) (ops : Array Oper) (i : Nat) (s : St) (x : AV × Option Ob) : Prop := ∀ s2 : St, (∀ t ∈ looksI ops i, s2.get t = s.get t ∧ (isMv ops i = false → AgH s2 s (s.get t).refs)) → (x.2 = none ∨ ∃ d, dstOf ops i = some d ∧ Fresh s2 d) →
 ∀ (w0 : Bas) (ok0 : Nat → Prop) (a : Act) (w : World) (Q : Exit → Act → World → Prop), RelE w0 ok0 s2 a w → wpOp P ops Q i (RelE w0 ok0 (eff s2 (dstOf ops i) x.1 x.2)) a w
def StpS (P : Program) (ops : Array Oper) (i : Nat) (s : St) : Prop := ∀ s2 : St, (∀ t ∈ looksI ops i, s2.get t = s.get t) →
 ∀ (w0 : Bas) (ok0 : Nat → Prop) (a : Act) (w : World) (Q : Exit → Act → World → Prop), RelE w0 ok0 s2 a w → wpOp P ops Q i (RelE w0 ok0 (eff s2 (dstOf ops i) (.tup []) none)) a w
theorem yielded_bool {w0 : Bas} {w : World} {m : Nat → Value} {ok : Nat → Prop} {st : St} {a : Act} {j : Nat} {t : Tmp} {b : Bool} (r : Rel w0 m ok st a w) (ht : (ops[j]?).bind (·.dst) = some t) (hb : st.get t = .v (.tv .bool b)) : yielded ops a.tmps j = some b := by
 have := r.env t
 rw [hb] at this
 have : a.tmps.getD t undef = .bool b := RepV.bool this
 have hlt : t < a.tmps.size := by
  rcases Nat.lt_or_ge t a.tmps.size with h1 | h1
  · exact h1
  · exfalso
    have e : a.tmps.getD t undef = undef := by simp [Array.getD_eq_getD_getElem?, h1]
    rw [this] at e; cases e
 have ht2 : a.tmps[t]? = some (.bool b) := by
  rw [← this]; simp [Array.getD_eq_getD_getElem?, hlt]
 unfold yielded
 rw [ht, Option.bind_some, ht2]
theorem looks_op {i : Nat} {o : Oper} (ho : ops[i]? = some o) {t : Tmp} (h : Operand.tmp t ∈ o.op.operands) : t ∈ looksI ops i := by
 simp only [looksI, ho, Oper.looksAt, List.mem_append, List.mem_filterMap]
 exact .inl ⟨.tmp t, by simpa using h, rfl⟩
theorem looks_guard {i : Nat} {o : Oper} (ho : ops[i]? = some o) {j : Nat} {want : Bool} (hg : o.guard = some (j, want)) {t : Tmp} (ht : (ops[j]?).bind (·.dst) = some t) : t ∈ looksI ops i := by
 simp only [looksI, ho, Oper.looksAt, List.mem_append, hg, ht]
 exact .inr (by simp)
theorem stp_skip {i : Nat} {o : Oper} (ho : ops[i]? = some o) {j : Nat} {want : Bool} (hg : o.guard = some (j, want)) {t : Tmp} (ht : (ops[j]?).bind (·.dst) = some t) {st : St}
 (hb : (∃ b, st.get t = .v (.tv .bool b) ∧ b ≠ want) ∨ st.get t = .tup []) : StpS P ops i st := by
 intro s2 hl w0 ok0 a w Q ⟨m, ok, r, f⟩
 have he := hl t (looks_guard ho hg ht)
 unfold wpOp
 simp only [ho]
 have hskip : RelE w0 ok0 (eff s2 (dstOf ops i) (.tup []) none) (a.put o.dst undef) w := by
  have : dstOf ops i = o.dst := by simp [dstOf, ho]
  rw [this]
  exact ⟨m, ok, r.put (x := .tup []) rep_skip o.dst, f⟩
 have hw : ¬ Region.wanted o (yielded ops a.tmps) = true := by
  rcases hb with ⟨b, hb, hne⟩ | hb
  · rw [hb] at he
    have hy := yielded_bool r ht he
    simp [Region.wanted, hg, hy, hne]
  · rw [hb] at he
    have hy := yielded_skip r ht he
    simp [Region.wanted, hg, hy]
 rw [if_neg hw]
 exact hskip
theorem stp_val (h : CxOk P cx) {i : Nat} {o : Oper} (ho : ops[i]? = some o) {st : St} (hg : o.guard = none ∨ ∃ j want t, o.guard = some (j, want) ∧ (ops[j]?).bind (·.dst) = some t ∧ st.get t = .v (.tv .bool want)) {K : AV × Option Ob → Prop} (hk : valA cx o st K) : ∃ x, K x ∧ Stp P ops i st x := by
 have hd : dstOf ops i = o.dst := by simp [dstOf, ho]
 have hmain : ∃ x, K x ∧ ∀ s2 : St, (∀ t ∈ looksI ops i, s2.get t = st.get t ∧ (isMv ops i = false → AgH s2 st (st.get t).refs)) → (x.2 = none ∨ ∃ d, o.dst = some d ∧ Fresh s2 d) →
  ∀ (w0 : Bas) (ok0 : Nat → Prop) (a : Act) (w : World) (Q : Exit → Act → World → Prop), RelE w0 ok0 s2 a w → o.wp P a w (RelE w0 ok0 (eff s2 o.dst x.1 x.2)) Q := by
  cases hm : isMv ops i with
  | false =>
   obtain ⟨x, hx, hrun⟩ := val_run h hk
   exact ⟨x, hx, fun s2 hl hfr => hrun s2 (fun t ht => ⟨(hl t (looks_op ho ht)).1, (hl t (looks_op ho ht)).2 rfl⟩) hfr⟩
  | true =>
   unfold isMv at hm
   rw [ho] at hm
   simp only at hm
   split at hm
   · rename_i y hop
     unfold valA at hk
     rw [hop] at hk
     simp only at hk
     refine ⟨_, hk, fun s2 hl _ w0 ok0 a w Q hr => ?_⟩
     obtain ⟨m, ok, r, f⟩ := hr
     refine Oper.wp_mono' (next := Nxt w0 ok0 (fun s => s = eff s2 o.dst (opA cx st o.type y) none)) (fun a' w' ⟨s, hs, hr⟩ => hs ▸ hr) (aop_sound ⟨h, r, f⟩ ?_)
     unfold aop
     rw [hop]
     simp only
     have : opA cx s2 o.type y = opA cx st o.type y := by
      cases y with
      | tmp t => exact (hl t (looks_op ho (by rw [hop]; simp [Op.operands]))).1
      | _ => rfl
     rw [this]
     rfl
   · cases hm
 obtain ⟨x, hx, hrun⟩ := hmain
 refine ⟨x, hx, ?_⟩
 intro s2 hl hfr w0 ok0 a w Q hr
 unfold wpOp
 simp only [ho]
 have hw : Region.wanted o (yielded ops a.tmps) = true := by
  rcases hg with hg | ⟨j, want, t, hg, ht, hb⟩
  · simp [Region.wanted, hg]
  · have he := (hl t (looks_guard ho hg ht)).1
    rw [hb] at he
    obtain ⟨m, ok, r, f⟩ := hr
    have hy := yielded_bool r ht he
    simp [Region.wanted, hg, hy]
 rw [if_pos hw, hd]
 exact .inl (hrun s2 hl (by rw [← hd]; exact hfr) w0 ok0 a w Q hr)
theorem offL_out {fb : List Nat} : ∀ {l : List Nat}, offL fb l = true → ∀ i ∈ l, i ∉ fb
 | [], _, i, h => by simp at h
 | j :: r, h, i, hi => by
  unfold offL at h
  split at h
  · cases h
  · rename_i hj
    rcases List.mem_cons.1 hi with rfl | hi
    · intro hm; rw [inL_mem.2 hm] at hj; cases hj
    · exact offL_out h i hi
theorem offV_out {fb : List Nat} {a : AV} (h : offV fb a = true) : ∀ i ∈ a.refs, i ∉ fb := by
 unfold offV at h
 split at h
 · intro i _ hm; simp at hm
 · exact offL_out h
theorem offs_out {fb : List Nat} {st : St} : ∀ {l : List Tmp}, offs fb st l = true → ∀ t ∈ l, ∀ i ∈ (st.get t).refs, i ∉ fb
 | [], _, t, h => by simp at h
 | u :: r, h, t, ht => by
  unfold offs at h
  split at h
  · rename_i hu
    rcases List.mem_cons.1 ht with rfl | ht
    · exact offV_out hu
    · exact offs_out h t ht
  · cases h
structure Done (P : Program) (ops : Array Oper) (cr : List Nat) (i : Nat) (fb : List Nat) (s : St) (x : AV × Option Ob) : Prop where
 stp : Stp P ops i s x
 looks : ∀ t ∈ looksI ops i, ∀ j ∈ (s.get t).refs, j ∉ fb
 makes : x.2.isSome = true → i ∈ cr
 val : ∀ j ∈ x.1.refs, j ∉ fb ∨ dstOf ops i = some j
def Dn (P : Program) (ops : Array Oper) (cr : List Nat) (i : Nat) (fb : List Nat) (s : St) (x : AV × Option Ob) : Prop := (x = (.tup [], none) ∧ StpS P ops i s) ∨ Done P ops cr i fb s x
theorem step_out (h : CxOk P cx) {K : St → Prop} {cr fb : List Nat} {i : Nat} {o : Oper} {st : St} (ho : ops[i]? = some o) (hg : o.guard = none ∨ ∃ j want t, o.guard = some (j, want) ∧ (ops[j]?).bind (·.dst) = some t ∧ st.get t = .v (.tv .bool want))
 (hk : stepV cx ops o fb (inL i cr) K st) : ∃ x, K (eff st o.dst x.1 x.2) ∧ Done P ops cr i fb st x := by
 unfold stepV at hk
 obtain ⟨h1, hk⟩ := stat_out hk
 obtain ⟨x, hx, hs⟩ := stp_val h ho hg hk
 obtain ⟨h2, hx⟩ := stat_out hx
 simp only [Bool.and_eq_true, Bool.or_eq_true] at h2
 refine ⟨x, hx, hs, fun t ht j hj => ?_, fun hc => ?_, fun j hj => ?_⟩
 · cases fb with
   | nil => simp
   | cons f fb => exact offs_out (show offs (f :: fb) st (o.looksAt ops) = true from h1) t (by simpa [looksI, ho] using ht) j hj
 · rcases h2.1 with h | h
   · exact inL_mem.1 h
   · rw [Option.isNone_iff_eq_none.1 h] at hc; cases hc
 · have hd : dstOf ops i = o.dst := by simp [dstOf, ho]
   cases fb with
   | nil => exact .inl (by simp)
   | cons f fb =>
    have h3 := h2.2
    cases hdo : o.dst with
    | none =>
     rw [hdo] at h3
     exact .inl (offL_out (show offL (f :: fb) x.1.refs = true from h3) j hj)
    | some d =>
     rw [hdo] at h3
     by_cases e : j = d
     · right; rw [hd, hdo, e]
     · exact .inl (offL_out (show offL (f :: fb) (x.1.refs.filter fun i => !Nat.beq i d) = true from h3) j (by
        rw [List.mem_filter]
        refine ⟨hj, ?_⟩
        rw [nbeq]; simp [e]))
theorem pops_step (h : CxOk P cx) {K : St → Prop} {cr fb : List Nat} {i : Nat} {o : Oper} {r : List (Nat × List Nat)} {st : St} (ho : ops[i]? = some o) (hk : pops cx ops cr K ((i, fb) :: r) st) : ∃ x, pops cx ops cr K r (eff st (dstOf ops i) x.1 x.2) ∧ Dn P ops cr i fb st x := by
 have hd : dstOf ops i = o.dst := by simp [dstOf, ho]
 rw [hd]
 unfold pops at hk
 rw [frc_eq] at hk
 rw [ho] at hk
 simp only at hk
 cases hg : o.guard with
 | none =>
  rw [hg] at hk
  obtain ⟨x, hx, hs⟩ := step_out h ho (.inl hg) hk
  exact ⟨x, hx, .inr hs⟩
 | some jw =>
  obtain ⟨j, want⟩ := jw
  rw [hg] at hk
  simp only at hk
  split at hk
  · rename_i t ht
    split at hk
    · rename_i b hb
      have skip : b ≠ want → pops cx ops cr K r ((st.put (some t) (.v (.tv .bool b))).put o.dst (.tup [])) → ∃ x, pops cx ops cr K r (eff st o.dst x.1 x.2) ∧ Dn P ops cr i fb st x := by
       intro hne hk
       rw [put_same (by simp) hb] at hk
       exact ⟨(.tup [], none), hk, .inl ⟨rfl, stp_skip ho hg ht (.inl ⟨b, hb, hne⟩)⟩⟩
      have run : b = want → stepV cx ops o fb (inL i cr) (pops cx ops cr K r) (st.put (some t) (.v (.tv .bool b))) → ∃ x, pops cx ops cr K r (eff st o.dst x.1 x.2) ∧ Dn P ops cr i fb st x := by
       intro e hk
       rw [put_same (by simp) hb] at hk
       obtain ⟨x, hx, hs⟩ := step_out h ho (.inr ⟨j, want, t, hg, ht, by rw [hb, e]⟩) hk
       exact ⟨x, hx, .inr hs⟩
      cases want with
      | true =>
       rw [cond_true] at hk
       rcases br_cases hk with ⟨e, hk⟩ | ⟨e, hk⟩
       · rw [← e] at hk; exact run e hk
       · rw [← e] at hk; exact skip (by rw [e]; simp) hk
      | false =>
       rw [cond_false] at hk
       rcases br_cases hk with ⟨e, hk⟩ | ⟨e, hk⟩
       · rw [← e] at hk; exact skip (by rw [e]; simp) hk
       · rw [← e] at hk; exact run e hk
    · rename_i hb
      exact ⟨(.tup [], none), hk, .inl ⟨rfl, stp_skip ho hg ht (.inr hb)⟩⟩
    · exact hk.elim
  · exact hk.elim
theorem pops_all (h : CxOk P cx) {K : St → Prop} {cr : List Nat} : ∀ (I : List (Nat × List Nat)) (st : St), (∀ p ∈ I, ∃ o, ops[p.1]? = some o) → (I.map (·.1)).Nodup → pops cx ops cr K I st →
 ∃ v : Nat → AV × Option Ob, K (effS ops v (fun _ => true) (I.map (·.1)) st) ∧ ∀ pre p r, I = pre ++ p :: r → Dn P ops cr p.1 p.2 (effS ops v (fun _ => true) (pre.map (·.1)) st) (v p.1)
 | [], st, _, _, hk => by
  unfold pops at hk
  rw [frc_eq] at hk
  exact ⟨fun _ => (.v .un, none), hk, fun pre i r e => by simp at e⟩
 | (i, fb) :: I, st, hI, hn, hk => by
  obtain ⟨o, ho⟩ := hI (i, fb) (List.mem_cons_self ..)
  simp only [List.map_cons] at hn
  obtain ⟨x, hk, hx⟩ := pops_step h ho hk
  obtain ⟨v, hK, hv⟩ := pops_all h I _ (fun j hj => hI j (List.mem_cons_of_mem _ hj)) (List.nodup_cons.1 hn).2 hk
  have hne : ∀ j ∈ I.map (·.1), j ≠ i := fun j hj e => (List.nodup_cons.1 hn).1 (e ▸ hj)
  have key : ∀ l : List Nat, (∀ j ∈ l, j ∈ I.map (·.1)) → effS ops (fun j => if j = i then x else v j) (fun _ => true) (i :: l) st = effS ops v (fun _ => true) l (eff st (dstOf ops i) x.1 x.2) := by
   intro l hl
   conv => lhs; unfold effS
   simp only [if_true]
   exact effS_congr fun j hj => ⟨rfl, fun _ => by simp [hne j (hl j hj)]⟩
  refine ⟨fun j => if j = i then x else v j, ?_, ?_⟩
  · rw [List.map_cons, key _ (fun _ h => h)]; exact hK
  · intro pre k r e
    cases pre with
    | nil =>
     simp only [List.nil_append, List.cons.injEq] at e
     obtain ⟨rfl, rfl⟩ := e
     simp only [if_true]
     exact hx
    | cons p pre =>
     simp only [List.cons_append, List.cons.injEq] at e
     obtain ⟨rfl, rfl⟩ := e
     rw [List.map_cons, key (pre.map (·.1)) (fun j hj => by
      rw [List.map_append]; exact List.mem_append_left _ hj)]
     have : k.1 ≠ i := hne k.1 (by simp)
     simp only [this, if_false]
     exact hv pre k r rfl
theorem noRef_out {d : Nat} : ∀ {l : List (Nat × AV)}, noRef d l = true → ∀ t, t ≠ d → d ∉ (fndE t l).refs
 | [], _, t, _ => by simp [fndE, AV.refs, AV0.refs]
 | (k, a) :: r, h, t, ht => by
  unfold noRef at h
  split at h
  · rename_i h1
    simp only [fndE, nbeq]
    by_cases e : k = t
    · subst e
      rw [nbeq] at h1
      simp only [ht, decide_false, Bool.false_or, Bool.not_eq_true', Bool.eq_false_iff, ne_eq, inL_mem] at h1
      simpa using h1
    · simp only [e, decide_false, cond_false]
      exact noRef_out h t ht
  · cases h
theorem noRefR_out {d : Nat} : ∀ {l : List ((Nat × Nat) × AV0)}, noRefR d l = true → ∀ id off, d ∉ (fndR id off l).refs ∧ fndR d off l = .un
 | [], _, id, off => by simp [fndR, AV0.refs]
 | p :: r, h, id, off => by
  unfold noRefR at h
  split at h
  · cases h
  · rename_i h1
    rw [nbeq] at h1
    simp only [Bool.or_eq_false_iff, decide_eq_false_iff_not] at h1
    obtain ⟨h2, h3⟩ := noRefR_out h id off
    have h4 : d ∉ p.2.refs := fun hm => by rw [inL_mem.2 hm] at h1; cases h1.2
    refine ⟨?_, ?_⟩
    · simp only [fndR, nbeq]
      by_cases e : p.1.1 = id
      · by_cases e2 : p.1.2 = off
        · simp only [e, e2, decide_true, cond_true]; exact h4
        · simp only [e, e2, decide_true, decide_false, cond_true, cond_false]; exact h2
      · simp only [e, decide_false, cond_false]; exact h2
    · simp only [fndR, nbeq, h1.1, decide_false, cond_false]; exact h3
theorem freshA_out {st : St} : ∀ {l : List Nat}, freshA ops st l = true → ∀ i ∈ l, ∃ d, dstOf ops i = some d ∧ Fresh st d
 | [], _, i, h => by simp at h
 | j :: r, h, i, hi => by
  unfold freshA at h
  split at h
  · rename_i d hd
    split at h
    · rename_i hn
      simp only [Bool.and_eq_true, nblt, decide_eq_true_eq] at hn
      rcases List.mem_cons.1 hi with rfl | hi
      · exact ⟨d, hd, hn.1.2, fun t ht => noRef_out hn.1.1 t ht, noRefR_out hn.2⟩
      · exact freshA_out h i hi
    · cases h
  · cases h
theorem chainOK_spec {l : List Bool} : ∀ (r0 pre0 : List Nat), chainOK ops l pre0 r0 = true →
 ∀ pre i r, r0 = pre ++ i :: r → (∃ o, ops[i]? = some o) ∧ l.getD i true = false ∧ ∀ j ∈ needI ops i, l.getD j false = true ∨ j ∈ pre0 ++ pre
 | [], _, _, pre, i, r, e => by simp at e
 | x :: r0, pre0, h, pre, i, r, e => by
  simp only [chainOK, Bool.and_eq_true, Bool.not_eq_true', List.all_eq_true, Bool.or_eq_true, inL_mem] at h
  cases pre with
  | nil =>
   simp only [List.nil_append, List.cons.injEq] at e
   obtain ⟨rfl, rfl⟩ := e
   refine ⟨Option.isSome_iff_exists.1 h.1.1.1, h.1.1.2, fun j hj => by simpa using h.1.2 j hj⟩
  | cons p pre =>
   simp only [List.cons_append, List.cons.injEq] at e
   obtain ⟨rfl, rfl⟩ := e
   have := chainOK_spec _ (pre0 ++ [x]) h.2 pre i r rfl
   refine ⟨this.1, this.2.1, fun j hj => by simpa using this.2.2 j hj⟩
theorem addL_sub {I : List Nat} {S : Nat → Bool} : ∀ (l X : List Nat), (∀ x ∈ X, S x = true) → (∀ j ∈ l, j ∈ I → S j = true) → ∀ x ∈ addL I X l, S x = true
 | [], X, h, _ => h
 | j :: r, X, h, hl => by
  unfold addL
  split
  · rename_i hj
    simp only [Bool.and_eq_true, inL_mem] at hj
    exact addL_sub r _ (fun x hx => (List.mem_cons.1 hx).elim (fun e => e ▸ hl j (List.mem_cons_self ..) hj.1) (h x)) (fun k hk => hl k (List.mem_cons_of_mem _ hk))
  · exact addL_sub r _ h (fun k hk => hl k (List.mem_cons_of_mem _ hk))
theorem covR_sub {I : List Nat} {S : Nat → Bool} (hS : ∀ i, S i = true → ∀ j ∈ needI ops i, j ∈ I → S j = true) : ∀ (l X : List Nat), (∀ x ∈ X, S x = true) → ∀ x ∈ covR ops I l X, S x = true
 | [], X, h => h
 | i :: r, X, h => by
  unfold covR
  split
  · rename_i hi
    exact covR_sub hS r _ (addL_sub _ _ h (hS i (h i (inL_mem.1 hi))))
  · exact covR_sub hS r _ h
theorem cov_sub {I : List Nat} {S : Nat → Bool} (hS : ∀ i, S i = true → ∀ j ∈ needI ops i, j ∈ I → S j = true) (X : List Nat) (h : ∀ x ∈ X, S x = true) : ∀ x ∈ cov ops I X, S x = true := covR_sub hS _ X h
theorem looksOK_spec {i : Nat} : ∀ {I : List Nat}, looksOK ops i I = true → ∀ j ∈ I, ∀ d, dstOf ops j = some d → d ∈ looksI ops i → (j ∈ needI ops i ∧ j ≠ i) ∨ (i ∈ needI ops j ∧ j ≠ i)
 | [], _, j, h => by simp at h
 | k :: r, h, j, hj => by
  simp only [looksOK, Bool.and_eq_true] at h
  rcases List.mem_cons.1 hj with rfl | hj
  · intro d hd hl
    have := h.1
    rw [hd] at this
    simp only [Bool.or_eq_true, Bool.not_eq_true', Bool.eq_false_iff, ne_eq, inL_mem, Bool.and_eq_true, nbeq, decide_eq_true_eq] at this
    rcases this with (this | this) | this
    · exact (this hl).elim
    · exact .inl this
    · exact .inr this
  · exact looksOK_spec h.2 j hj
theorem setL_getD : ∀ {I : List Nat} {l : List Bool} {j : Nat}, (setL l I).getD j true = (l.getD j true || inL j I)
 | [], l, j => by simp [setL, inL]
 | i :: r, l, j => by
  unfold setL
  rw [setL_getD]
  simp only [inL, nbeq, List.getD_eq_getElem?_getD, List.getElem?_set]
  by_cases h : i = j
  · subst h
    by_cases h2 : i < l.length <;> simp [h2]
  · simp [h]
theorem setL_len : ∀ {I : List Nat} {l : List Bool}, (setL l I).length = l.length
 | [], l => rfl
 | i :: r, l => by unfold setL; rw [setL_len]; simp
theorem count_set : ∀ {l : List Bool} {i : Nat}, l[i]? = some false → (l.set i true).count false + 1 = l.count false
 | [], _, h => by simp at h
 | b :: r, 0, h => by
  simp at h; subst h; simp
 | b :: r, i + 1, h => by
  simp at h
  have := count_set h
  simp only [List.set_cons_succ, List.count_cons]
  omega
theorem getD_list {listed : Array Bool} {j : Nat} {b : Bool} : listed.getD j b = listed.toList.getD j b := by
 simp [Array.getD_eq_getD_getElem?, List.getD_eq_getElem?_getD]
theorem front_any (h : CxOk P cx) {K : St → Prop} {l : List Bool} {st : St} {cr : List Nat} {I : List (Nat × List Nat)} (hlen : l.length = ops.size) (hok : frontOK ops l (I.map (·.1)) = true) (hcr : cr.all (fun j => inL j (I.map (·.1))) = true) (hforb : I.all (forbOK ops cr (I.map (·.1))) = true)
 (hfr : freshA ops st cr = true) (hk : pops cx ops cr K I st) : ∃ s1, K s1 ∧ ∀ (w0 : Bas) (ok0 : Nat → Prop) (Q : Exit → Act → World → Prop),
  (∀ (listed : Array Bool) (N : Nat) (a : Act) (w : World), listed.toList = setL l (I.map (·.1)) → listed.toList.count false ≤ N → RelE w0 ok0 s1 a w → wpAny P .any ops Q N listed a w) →
  ∀ (listed : Array Bool) (N : Nat) (a : Act) (w : World), listed.toList = l → l.count false ≤ N → RelE w0 ok0 st a w → wpAny P .any ops Q N listed a w := by
 have hok' := hok
 simp only [frontOK, Bool.and_eq_true, List.all_eq_true] at hok
 obtain ⟨⟨⟨⟨⟨k1, k2⟩, k3⟩, k4⟩, k6⟩, k5⟩ := hok
 have spec : ∀ pre i r, I.map (·.1) = pre ++ i :: r → (∃ o, ops[i]? = some o) ∧ l.getD i true = false ∧ ∀ j ∈ needI ops i, l.getD j false = true ∨ j ∈ pre := fun pre i r e => by simpa using chainOK_spec _ [] k6 pre i r e
 have hnI := distinctL_nodup k1
 have hnd := distinctL_nodup k3
 obtain ⟨v, hK, hv⟩ := pops_all h I st (fun p hp => by
  obtain ⟨pre, r, e⟩ := List.append_of_mem (List.mem_map_of_mem (f := (·.1)) hp)
  exact (spec pre p.1 r e).1) hnI hk
 -- by numbers
 have hv' : ∀ i ∈ I.map (·.1), ∃ pre r fb, I.map (·.1) = pre ++ i :: r ∧ Dn P ops cr i fb (effS ops v (fun _ => true) pre st) (v i) ∧ ∀ c ∈ cr, ∃ d, dstOf ops c = some d ∧ (d ∈ fb ∨ c ∈ cov ops (I.map (·.1)) ((needI ops i).filter (fun j => inL j (I.map (·.1))))) := by
  intro i hi
  obtain ⟨p, hp, rfl⟩ := List.mem_map.1 hi
  obtain ⟨pre, r, e⟩ := List.append_of_mem hp
  refine ⟨pre.map (·.1), r.map (·.1), p.2, by rw [e]; simp, hv pre p r e, fun c hc => ?_⟩
  have := List.all_eq_true.1 (List.all_eq_true.1 hforb p hp) c hc
  split at this
  · rename_i d hd
    refine ⟨d, hd, ?_⟩
    simpa [inL_mem] using this
  · cases this
 have hcrI : ∀ c ∈ cr, c ∈ I.map (·.1) := fun c hc => inL_mem.1 (List.all_eq_true.1 hcr c hc)
 have hfresh := freshA_out hfr
 refine ⟨_, hK, ?_⟩
 clear hv hK hk hok' hforb hcr hfr
 generalize I.map (·.1) = J at *
 intro w0 ok0 Q hrest listed N a w hl hN hr
 have mem : ∀ i ∈ J, ∃ pre r, J = pre ++ i :: r := fun i hi => by
  obtain ⟨pre, r, e⟩ := List.append_of_mem hi
  exact ⟨pre, r, e⟩
 have hd : ∀ j ∈ J, ∃ d, dstOf ops j = some d := fun j hj => Option.isSome_iff_exists.1 (k2 j hj)
 have hIu : ∀ i ∈ J, l.getD i true = false := fun i hi => by
  obtain ⟨pre, r, e⟩ := mem i hi
  exact (spec pre i r e).2.1
 have hIf : ∀ i ∈ J, l.getD i false = false := fun i hi => by
  have := hIu i hi
  simp only [List.getD_eq_getElem?_getD] at this ⊢
  cases hli : l[i]? with
  | none => rfl
  | some b => rw [hli] at this; simpa using this
 have dinj : ∀ i ∈ J, ∀ j ∈ J, ∀ d, dstOf ops i = some d → dstOf ops j = some d → i = j := by
  intro i hi j hj d h1 h2
  clear hrest hIu hIf spec mem hd hv' hcrI k1 k2 k3 k4 k5 k6
  induction J with
  | nil => simp at hi
  | cons x J ih =>
   have hn2 : (J.filterMap (dstOf ops)).Nodup := by
    cases hx : dstOf ops x with
    | none => rwa [List.filterMap_cons_none hx] at hnd
    | some e => rw [List.filterMap_cons_some hx] at hnd; exact (List.nodup_cons.1 hnd).2
   rcases List.mem_cons.1 hi with e1 | hi2
   · rcases List.mem_cons.1 hj with e2 | hj2
     · rw [e1, e2]
     · exfalso
       rw [e1] at h1
       rw [List.filterMap_cons_some h1] at hnd
       exact (List.nodup_cons.1 hnd).1 (List.mem_filterMap.2 ⟨j, hj2, h2⟩)
   · rcases List.mem_cons.1 hj with e2 | hj2
     · exfalso
       rw [e2] at h2
       rw [List.filterMap_cons_some h2] at hnd
       exact (List.nodup_cons.1 hnd).1 (List.mem_filterMap.2 ⟨i, hi2, h1⟩)
     · exact ih (List.nodup_cons.1 hnI).2 hn2 hi2 hj2
 have claim : ∀ (m : Nat) (S : Nat → Bool) (listed : Array Bool) (N : Nat) (a : Act) (w : World), (J.filter fun i => !S i).length = m → (∀ i, S i = true → i ∈ J) → (∀ i, S i = true → ∀ j ∈ needI ops i, l.getD j false = true ∨ S j = true) →
  listed.size = ops.size → (∀ j, listed.getD j true = (l.getD j true || S j)) → listed.toList.count false ≤ N → RelE w0 ok0 (effS ops v S J st) a w → wpAny P .any ops Q N listed a w := by
  intro m
  induction m with
  | zero =>
   intro S listed N a w hm hSI hcl hsz hli hN hr
   have hall : ∀ i ∈ J, S i = true := fun i hi => by
    have := List.eq_nil_of_length_eq_zero hm
    rw [List.filter_eq_nil_iff] at this
    simpa using this i hi
   have e1 : effS ops v S J st = effS ops v (fun _ => true) J st := effS_congr fun i hi => ⟨hall i hi, fun _ => rfl⟩
   rw [e1] at hr
   refine hrest listed N a w ?_ hN hr
   refine List.ext_getElem (by rw [setL_len, hlen]; simpa using hsz) fun j h1 h2 => ?_
   have e2 : listed.toList.getD j true = (setL l J).getD j true := by
    rw [← getD_list, hli, setL_getD]
    congr 1
    cases hs : S j with
    | true => rw [inL_mem.2 (hSI j hs)]
    | false =>
     cases hi : inL j J with
     | false => rfl
     | true => rw [hall j (inL_mem.1 hi)] at hs; cases hs
   simpa [List.getD_eq_getElem?_getD, List.getElem?_eq_getElem h1, List.getElem?_eq_getElem h2] using e2
  | succ m ih =>
   intro S listed N a w hm hSI hcl hsz hli hN hr
   -- the first that is not done
   have hex : ∃ pre i r, J = pre ++ i :: r ∧ S i = false ∧ ∀ j ∈ pre, S j = true := by
    have : ∃ i ∈ J, S i = false := by
     have hne : (J.filter fun i => !S i) ≠ [] := fun e => by rw [e] at hm; simp at hm
     obtain ⟨i, hi⟩ := List.exists_mem_of_ne_nil _ hne
     simp only [List.mem_filter, Bool.not_eq_true'] at hi
     exact ⟨i, hi.1, hi.2⟩
    clear hm hr hN hrest spec mem hnd hnI hd hIu hIf k1 k2 k3 k4 k5 k6 ih hli hcl hSI hv' hcrI dinj
    induction J with
    | nil => obtain ⟨i, hi, _⟩ := this; simp at hi
    | cons x J ih =>
     cases hx : S x with
     | false => exact ⟨[], x, J, rfl, hx, by simp⟩
     | true =>
      obtain ⟨i, hi, hs⟩ := this
      have hi' : i ∈ J := (List.mem_cons.1 hi).resolve_left (fun e => by rw [e, hx] at hs; cases hs)
      obtain ⟨pre, j, r, e, hj, hp⟩ := ih ⟨i, hi', hs⟩
      exact ⟨x :: pre, j, r, by rw [e]; rfl, hj, fun k hk => (List.mem_cons.1 hk).elim (fun e => e ▸ hx) (hp k)⟩
   obtain ⟨pre0, i0, r0, e0, hs0, hp0⟩ := hex
   have hi0 : i0 ∈ J := by rw [e0]; simp
   have lf : ∀ j, listed.getD j false = true ↔ (l.getD j false = true ∨ S j = true) := by
    intro j
    have h1 := hli j
    rw [getD_list] at h1 ⊢
    simp only [List.getD_eq_getElem?_getD] at h1 ⊢
    have hl1 : listed.toList.length = l.length := by simp [hsz, hlen]
    rcases Nat.lt_or_ge j l.length with hj | hj
    · rw [List.getElem?_eq_getElem (by omega), List.getElem?_eq_getElem hj] at *
      simp only [Option.getD_some] at h1 ⊢
      rw [h1]; simp
    · rw [List.getElem?_eq_none (by omega), List.getElem?_eq_none hj] at *
      simp only [Option.getD_none] at h1 ⊢
      constructor
      · intro hh; cases hh
      · rintro (hh | hh)
        · cases hh
        · exfalso
          have := hIu j (hSI j hh)
          simp only [List.getD_eq_getElem?_getD, List.getElem?_eq_none hj] at this
          cases this
   have hready0 : i0 ∈ Region.ready .any ops listed := by
    have : i0 ∈ readyL ops listed.toList := by
     obtain ⟨⟨o, ho⟩, hu, hn⟩ := spec pre0 i0 r0 e0
     unfold readyL
     rw [List.mem_filter, List.mem_range]
     refine ⟨(Array.getElem?_eq_some_iff.1 ho).1, ?_⟩
     rw [ho]
     simp only [Bool.and_eq_true, Bool.not_eq_true', List.all_eq_true]
     refine ⟨by rw [← getD_list, hli, hu, hs0]; rfl, fun j hj => ?_⟩
     rw [← getD_list]
     refine (lf j).2 ((hn j (by simpa [needI, ho] using hj)).imp id (fun h => hp0 j h))
    exact readyL_spec.1 this
   cases N with
   | zero =>
    exfalso
    have h1 := hli i0
    rw [hIu i0 hi0, hs0, getD_list] at h1
    simp only [List.getD_eq_getElem?_getD] at h1
    cases hx : listed.toList[i0]? with
    | none => rw [hx] at h1; simp at h1
    | some b =>
     rw [hx] at h1
     simp at h1; subst h1
     have := count_set hx
     omega
   | succ N =>
    refine ⟨fun e => by rw [e] at hready0; simp at hready0, fun i hi => ?_⟩
    have hi' := readyL_spec.2 hi
    unfold readyL at hi'
    rw [List.mem_filter, List.mem_range] at hi'
    obtain ⟨hilt, hi'⟩ := hi'
    cases ho : ops[i]? with
    | none => rw [ho] at hi'; simp at hi'
    | some o =>
    rw [ho] at hi'
    simp only [Bool.and_eq_true, Bool.not_eq_true', List.all_eq_true] at hi'
    obtain ⟨hiu, hin⟩ := hi'
    have hneed : ∀ j ∈ needI ops i, l.getD j false = true ∨ S j = true := fun j hj => by
     refine (lf j).1 ?_
     rw [getD_list]
     exact hin j (by simpa [needI, ho] using hj)
    rw [← getD_list, hli] at hiu
    simp only [Bool.or_eq_false_iff] at hiu
    have hclJ : ∀ i, S i = true → ∀ j ∈ needI ops i, j ∈ J → S j = true := fun i hi j hj hjI => (hcl i hi j hj).resolve_left (fun e => by rw [hIf j hjI] at e; cases e)
    have hneedJ : ∀ j ∈ (needI ops i).filter (fun j => inL j J), S j = true := fun x hx => by
     simp only [List.mem_filter, inL_mem] at hx
     exact (hneed x hx.1).resolve_left (fun e => by rw [hIf x hx.2] at e; cases e)
    have hiI : i ∈ J := by
     by_cases hiI : i ∈ J
     · exact hiI
     · exfalso
       have h5 := k5 i (List.mem_range.2 hilt)
       simp only [Bool.or_eq_true, hiu.1, inL_mem, List.any_eq_true, Bool.and_eq_true, Bool.not_eq_true', Bool.eq_false_iff, ne_eq, List.all_eq_true] at h5
       rcases h5 with ((h5 | h5) | ⟨j, hj, h6, h7⟩) | h5
       · cases h5
       · exact hiI h5
       · rcases hneed j hj with h8 | h8
         · exact h6 h8
         · exact h7 (hSI j h8)
       · have := cov_sub (ops := ops) (I := J) (S := S) hclJ _ hneedJ i0 (h5 i0 hi0)
         rw [hs0] at this; cases this
    obtain ⟨pre, r, fb, e, hst, hfb⟩ := hv' i hiI
    -- what it needs is ahead of it
    have hpre : ∀ x ∈ pre, x ∈ J := fun x hx => by rw [e]; exact List.mem_append_left _ hx
    have hclP : ∀ x, decide (x ∈ pre) = true → ∀ j ∈ needI ops x, j ∈ J → decide (j ∈ pre) = true := by
     intro x hx j hj hjJ
     simp only [decide_eq_true_eq] at hx ⊢
     obtain ⟨p1, p2, ep⟩ := List.append_of_mem hx
     have := (spec p1 x (p2 ++ i :: r) (by rw [e, ep]; simp)).2.2 j hj
     rcases this with h | h
     · rw [hIf j hjJ] at h; cases h
     · rw [ep]; exact List.mem_append_left _ h
    have hclos : ∀ c ∈ cov ops J ((needI ops i).filter (fun j => inL j J)), S c = true ∧ c ∈ pre := by
     intro c hc
     refine ⟨cov_sub (ops := ops) (I := J) (S := S) hclJ _ hneedJ c hc, ?_⟩
     have := cov_sub (ops := ops) (I := J) (S := fun x => decide (x ∈ pre)) hclP _ (fun x hx => by
      simp only [List.mem_filter, inL_mem] at hx
      simp only [decide_eq_true_eq]
      exact ((spec pre i r e).2.2 x hx.1).resolve_left (fun h => by rw [hIf x hx.2] at h; cases h)) c hc
     simpa using this
    have hnpre : (pre.filterMap (dstOf ops)).Nodup := by
     rw [e, List.filterMap_append] at hnd
     exact (List.nodup_append.1 hnd).1
    have hagree : ∀ t ∈ looksI ops i, (effS ops v S J st).get t = (effS ops v (fun _ => true) pre st).get t := by
     intro t ht
     by_cases hj : ∃ j ∈ J, dstOf ops j = some t
     · obtain ⟨j, hjI, hjd⟩ := hj
       by_cases htl : t < st.n
       rotate_left
       · rw [effS_out htl rfl, effS_out htl rfl]
       rcases looksOK_spec (k4 i hiI) j hjI t hjd ht with ⟨hjn, hji⟩ | ⟨hjn, hji⟩
       · have hjS : S j = true := (hneed j hjn).resolve_left (fun e => by rw [hIf j hjI] at e; cases e)
         have hjp : j ∈ pre := ((spec pre i r e).2.2 j hjn).resolve_left (fun e => by rw [hIf j hjI] at e; cases e)
         rw [effS_yes hjd hjS hjI htl hnd, effS_yes hjd rfl hjp htl hnpre]
       · rw [effS_no, effS_no]
         · intro k hk _ ek
           have := dinj k (hpre k hk) j hjI t ek hjd
           subst this
           obtain ⟨p1, p2, ep⟩ := List.append_of_mem hk
           have := (spec p1 k (p2 ++ i :: r) (by rw [e, ep]; simp)).2.2 i hjn
           rcases this with h | h
           · rw [hIf i hiI] at h; cases h
           · have hn := hnI
             rw [e, ep] at hn
             have := (List.nodup_append.1 hn).2.2 i (List.mem_append_left _ h) i (List.mem_cons_self ..)
             exact this rfl
         · intro k hk hkS ek
           have := dinj k hk j hjI t ek hjd
           subst this
           have := hclJ k hkS i hjn hiI
           rw [hiu.2] at this; cases this
     · rw [effS_no (fun j hj' _ e => hj ⟨j, hj', e⟩), effS_no (fun j hj' _ e2 => hj ⟨j, hpre j hj', e2⟩)]
    have hnext : ∀ a' w', RelE w0 ok0 (eff (effS ops v S J st) (dstOf ops i) (v i).1 (v i).2) a' w' → wpAny P .any ops Q N (listed.setIfInBounds i true) a' w' := by
     intro a' w' hr0
     have hr' := (effS_add hiI hiu.2 hnd hd).ent _ _ _ _ hr0
     clear hr0
     have hx : listed.toList[i]? = some false := by
      have h1 := hli i
      rw [hiu.1, hiu.2, getD_list] at h1
      simp only [List.getD_eq_getElem?_getD] at h1
      cases hx : listed.toList[i]? with
      | none => rw [hx] at h1; simp at h1
      | some b => rw [hx] at h1; simp at h1; rw [h1]
     refine ih (fun j => S j || j == i) (listed.setIfInBounds i true) N a' w' ?_ ?_ ?_ ?_ ?_ ?_ hr'
     · have : (J.filter fun j => !S j).length = (J.filter fun j => !(S j || j == i)).length + 1 := by
        clear hm hr hr' hN hrest spec mem hnd hd hIu hIf k1 k2 k3 k4 k5 k6 ih hli hcl hSI e hst hagree lf hready0 hi hp0 e0 hi0 hin hneed hv' hcrI dinj hpre hclP hclos hclJ hneedJ hfb
        induction J with
        | nil => simp at hiI
        | cons x I ih =>
         obtain ⟨hxI, hnI'⟩ := List.nodup_cons.1 hnI
         by_cases hxi : x = i
         · subst hxi
           have e1 : (I.filter fun j => !(S j || j == x)) = I.filter fun j => !S j := by
            refine List.filter_congr fun j hj => ?_
            have : j ≠ x := fun e => hxI (e ▸ hj)
            simp [this]
           rw [List.filter_cons_of_pos (by simp [hiu.2]), List.filter_cons_of_neg (by simp), e1]
           rfl
         · have hiI' : i ∈ I := (List.mem_cons.1 hiI).resolve_left (fun e => hxi e.symm)
           have := ih hnI' hiI'
           cases hsx : S x with
           | true => rw [List.filter_cons_of_neg (by simp [hsx]), List.filter_cons_of_neg (by simp [hsx])]; exact this
           | false => rw [List.filter_cons_of_pos (by simp [hsx]), List.filter_cons_of_pos (by simp [hsx, hxi])]; simp only [List.length_cons]; omega
       omega
     · intro j hj
       simp only [Bool.or_eq_true, beq_iff_eq] at hj
       rcases hj with hj | rfl
       · exact hSI j hj
       · exact hiI
     · intro j hj k hk
       simp only [Bool.or_eq_true, beq_iff_eq] at hj ⊢
       rcases hj with hj | rfl
       · exact (hcl j hj k hk).imp id .inl
       · exact (hneed k hk).imp id .inl
     · simpa using hsz
     · intro j
       by_cases hj : i = j
       · subst hj
         have : i < listed.size := by rw [hsz]; exact hilt
         simp [Array.getD_eq_getD_getElem?, this]
       · have hj' : ¬ j = i := fun e => hj e.symm
         have e3 : (listed.setIfInBounds i true).getD j true = listed.getD j true := by simp [Array.getD_eq_getD_getElem?, Array.getElem?_setIfInBounds_ne hj]
         rw [e3, hli]
         have : (j == i) = false := by simpa using hj'
         simp only [this, Bool.or_false]
     · have := count_set hx
       have e3 : (listed.setIfInBounds i true).toList = listed.toList.set i true := by simp
       rw [e3]
       omega
    rcases hst with ⟨ex, hst⟩ | hst
    · refine wpOp_mono hnext ?_
      rw [ex]
      exact hst _ hagree w0 ok0 a w Q hr
    · refine wpOp_mono hnext (hst.stp _ (fun t ht => ⟨hagree t ht, fun _ id hid => agD_of (by rw [effS_rf, effS_rf]) (fun id off j hj => ?_) 4 id ?_⟩) ?_ w0 ok0 a w Q hr)
      · rw [effS_rf] at hj
        have hno : ∀ c ∈ J, (v c).2.isSome = true → dstOf ops c ≠ some j := by
         intro c hcJ hcv hcd
         have hccr : c ∈ cr := by
          obtain ⟨_, _, _, _, hd1, _⟩ := hv' c hcJ
          rcases hd1 with ⟨ex, _⟩ | hd1
          · rw [ex] at hcv; cases hcv
          · exact hd1.makes hcv
         obtain ⟨d, hd1, hd2⟩ := hfresh c hccr
         rw [hcd] at hd1
         cases hd1
         exact (hd2.2.2 id off).1 hj
        rw [effS_fno (fun c hc _ => hno c hc), effS_fno (fun c hc _ => hno c (hpre c hc))]
      · by_cases hc : ∃ c ∈ J, (v c).2.isSome = true ∧ dstOf ops c = some id
        · obtain ⟨c, hcJ, hcv, hcd⟩ := hc
          have hccr : c ∈ cr := by
           obtain ⟨_, _, _, _, hd1, _⟩ := hv' c hcJ
           rcases hd1 with ⟨ex, _⟩ | hd1
           · rw [ex] at hcv; cases hcv
           · exact hd1.makes hcv
          obtain ⟨d, hd1, hd2⟩ := hfb c hccr
          rw [hcd] at hd1
          cases hd1
          obtain ⟨h1, h2⟩ := hclos c (hd2.resolve_left (hst.looks t ht id hid))
          rw [effS_fyes hcd h1 hcv hcJ hnd, effS_fyes hcd rfl hcv h2 hnpre]
        · rw [effS_fno (fun j hj _ hjc e2 => hc ⟨j, hj, hjc, e2⟩), effS_fno (fun j hj _ hjc e2 => hc ⟨j, hpre j hj, hjc, e2⟩)]
      · by_cases hc : (v i).2 = none
        · exact .inl hc
        · right
          have hicr := hst.makes (Option.isSome_iff_ne_none.2 hc)
          obtain ⟨d, hdi, hfd⟩ := hfresh i hicr
          refine ⟨d, hdi, by rw [effS_len]; exact hfd.1, fun t htd => ?_, fun id off => by rw [effS_rf]; exact hfd.2.2 id off⟩
          by_cases hj : ∃ j ∈ J, S j = true ∧ dstOf ops j = some t
          · obtain ⟨j, hjJ, hjS, hjd⟩ := hj
            by_cases htl : t < st.n
            rotate_left
            · rw [effS_out htl rfl]; exact hfd.2.1 t htd
            rw [effS_yes hjd hjS hjJ htl hnd]
            intro hm
            obtain ⟨_, _, fbj, _, hdj, hfbj⟩ := hv' j hjJ
            rcases hdj with ⟨ex, _⟩ | hdj
            · rw [ex] at hm; simp [AV.refs, refsL] at hm
            · rcases hdj.val d hm with h1 | h1
              · obtain ⟨d', h2, h3⟩ := hfbj i hicr
                rw [hdi] at h2
                cases h2
                have := cov_sub (ops := ops) (I := J) (S := S) hclJ _ (fun x hx => by
                 simp only [List.mem_filter, inL_mem] at hx
                 exact hclJ j hjS x hx.1 hx.2) i (h3.resolve_left h1)
                rw [hiu.2] at this; cases this
              · rw [hjd] at h1; exact htd (Option.some.inj h1)
          · rw [effS_no (fun j hj' hjS e2 => hj ⟨j, hj', hjS, e2⟩)]
            exact hfd.2.1 t htd
 have hsz : listed.size = ops.size := by rw [← hlen, ← hl]; simp
 refine claim _ (fun _ => false) listed N a w rfl (by simp) (by simp) hsz (fun j => by rw [getD_list, hl]; simp) (by rw [hl]; exact hN) ?_
 have : effS ops v (fun _ => false) J st = st := by
  clear hr hN hrest spec mem hnd hnI hd hIu hIf k1 k2 k3 k4 k5 k6 claim hv' hcrI dinj
  induction J with
  | nil => rfl
  | cons x I ih => unfold effS; simpa using ih
 rw [this]; exact hr
end
end Go.Iv
