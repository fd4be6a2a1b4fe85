/- Operations proved against the model, first part. -/
import Derived.Test.YtcpeakceigidpaaDoorKv5
set_option linter.all false
namespace Go.Iv
open Go.RowKit
variable [GL]
section
variable {P : Program} {cx : Cx} {w0 : Bas} {w : World} {ok0 ok : Nat → Prop} {m : Nat → Value} {st : St} {a : Act} {o : Oper} {K : St → Prop} {Q : Exit → Act → World → Prop}
structure Here (P : Program) (cx : Cx) (w0 : Bas) (ok0 : Nat → Prop) (m : Nat → Value) (ok : Nat → Prop) (st : St) (a : Act) (w : World) : Prop where
 cx : CxOk P cx
 r : Rel w0 m ok st a w
 f : ∀ b, ok b → ok0 b ∨ w0.fr b
theorem Here.frozen (h : Here P cx w0 ok0 m ok st a w) (l : List Nat) : ∃ ok', ((∀ b, ok b → ok' b) ∧ (∀ d, d ∈ l → ∀ o, fnd d st.hp = some o → ∀ b, blk (m d) = some b → ok' b) ∧ (∀ id o, fnd id (freezes st l).hp = some o → fnd id st.hp = some o)) ∧ Here P cx w0 ok0 m ok' (freezes st l) a w := by
 obtain ⟨ok', ⟨h1, h2, h3, h4⟩, r⟩ := h.r.freezes l
 exact ⟨ok', ⟨h1, h3, h4⟩, h.cx, r, fun b hb => (h2 b hb).elim (h.f b) .inr⟩
theorem Here.val (h : Here P cx w0 ok0 m ok st a w) {x : AV} {v : Value} (hx : RepA w ok m st.hp x v) (hr : (execOp a.eval o).run P w = .ok (.value v) w) (hk : K (st.put o.dst x)) : o.wp P a w (Nxt w0 ok0 K) Q :=
 wp_val hr ⟨_, hk, m, ok, h.r.put hx _, h.f⟩
theorem alloc_same (w : World) (o : Obj) (b : Nat) (h : b < w.heap.size) : (w.alloc o).heap[b]? = w.heap[b]? := Below.heap_alloc w o b h
theorem Here.alloc (h : Here P cx w0 ok0 m ok st a w) (o : Obj) : Here P cx w0 ok0 m ok st a (w.alloc o) := by
 refine ⟨h.cx, h.r.world (fun b hb => alloc_same w o b (h.r.okb b hb)) (fun id ob b ho hb => alloc_same w o b (h.r.sep id ob b ho hb).2.2) (by simp) (h.r.keep.alloc o) (fun _ h => h) (fun b hb => ?_) (fun id ob b ho hb => (h.r.sep id ob b ho hb).1) (fun D _ c n => ⟨n, alloc_same w o D (Array.getElem?_eq_some_iff.1 c).1⟩), h.f⟩
 have := h.r.okb b hb
 simp; omega
theorem Here.newBox (h : Here P cx w0 ok0 m ok st a w) (d : Nat) (T : TypeId) (t : Ty) (x : t.D) (cells : Array Value) (hr : Rep w ok t x cells.toList) :
 Nxt w0 ok0 (fun s => s = st.mk_ d (.box T t x) (.ptr d 0)) (a.put (some d) (.pointer (some ⟨w.heap.size, 0, none⟩))) (w.alloc (.cells cells T)) := by
 have h' := h.alloc (.cells cells T)
 refine ⟨_, rfl, _, ok, h'.r.mk_ d (.box T t x) (.ptr d 0) (.pointer (some ⟨w.heap.size, 0, none⟩)) _ ⟨w.heap.size, cells, rfl, heap_alloc_new w _, hr.move (fun b hb => alloc_same w _ b (h.r.okb b hb)) (fun _ h => h)⟩ ?_ ?_ ?_, h'.f⟩
 · intro T' t' x' hf
   exact ⟨w.heap.size, by simp, rfl⟩
 · intro b hb
   simp [blk] at hb
   subst hb
   exact ⟨fun hk => Nat.lt_irrefl _ (h.r.okb _ hk), h.r.keep.old (Nat.le_refl _), by simp⟩
 · intro b id o' hne hf hb hb'
   simp [blk] at hb
   subst hb
   exact Nat.lt_irrefl _ (h.r.sep id o' _ hf hb').2.2
theorem fndR_app (d id off : Nat) (l : List ((Nat × Nat) × AV0)) : ∀ rs : List (Nat × Nat), fndR id off (rsR d rs ++ l) = fndR id off l ∨ (id = d ∧ ∃ p ∈ rs, p.1 = off ∧ fndR id off (rsR d rs ++ l) = cAV p.2)
 | [] => .inl rfl
 | p :: r => by
  have ih := fndR_app d id off l r
  simp only [rsR, List.cons_append, fndR, nbeq]
  by_cases h : d = id
  · subst h
    simp only [decide_true, cond_true]
    by_cases h2 : p.1 = off
    · refine .inr ⟨True.intro, p, by simp, h2, by simp [h2]⟩
    · simp only [h2, decide_false, cond_false]
      rcases ih with ih | ⟨h3, q, hq, h4, h5⟩
      · exact .inl ih
      · exact .inr ⟨True.intro, q, by simp [hq], h4, h5⟩
  · simp only [h, decide_false, cond_false]
    rcases ih with ih | ⟨h3, q, hq, h4, h5⟩
    · exact .inl ih
    · exact .inr ⟨h3, q, by simp [hq], h4, h5⟩
theorem Rel.addR (r : Rel w0 m ok st a w) {d : Nat} {rs : List (Nat × Nat)} (h : ∀ T t x, fnd d st.hp = some (.box T t x) → ∀ p ∈ rs, ∃ b v, m d = .pointer (some ⟨b, 0, none⟩) ∧ w.cell? ⟨b, p.1, none⟩ = some v ∧ RepA0 w ok m st.hp (cAV p.2) v) : Rel w0 m ok (st.addR d rs) a w :=
 ⟨r.defers, r.size, r.env, r.ob, r.sep, r.inj, r.okb, r.keep, r.pins, fun id off hu T t x hf => by
  simp only [St.addR] at hu hf ⊢
  rcases fndR_app d id off st.rf rs with e | ⟨e1, p, hp, e2, e3⟩
  · rw [e] at hu ⊢; exact r.rfs id off hu T t x hf
  · subst e1 e2
    rw [e3]; exact h T t x hf p hp⟩
theorem Here.newBoxR (h : Here P cx w0 ok0 m ok st a w) (d : Nat) (T : TypeId) (t : Ty) (x : t.D) (rs : List (Nat × Nat)) (cells : Array Value) (hr : Rep w ok t x cells.toList) (hd : cAny d rs = false) (hdn : d < st.n) (hrs : ∀ p ∈ rs, ∃ u, cells.toList[p.1]? = some u ∧ RepR m st.hp (cAV p.2) u) :
 Nxt w0 ok0 (fun s => s = (st.mk0 d (.box T t x) (.ptr d 0)).addR d rs) (a.put (some d) (.pointer (some ⟨w.heap.size, 0, none⟩))) (w.alloc (.cells cells T)) := by
 have h' := h.alloc (.cells cells T)
 have r1 := h'.r.mk0 d (.box T t x) (.ptr d 0) (.pointer (some ⟨w.heap.size, 0, none⟩)) (.pointer (some ⟨w.heap.size, 0, none⟩)) ⟨w.heap.size, cells, rfl, heap_alloc_new w _, hr.move (fun b hb => alloc_same w _ b (h.r.okb b hb)) (fun _ h => h)⟩ (fun T' t' x' hf => ⟨w.heap.size, by simp, rfl⟩) (fun b hb => by
  simp [blk] at hb
  subst hb
  exact ⟨fun hk => Nat.lt_irrefl _ (h.r.okb _ hk), h.r.keep.old (Nat.le_refl _), by simp⟩) (fun b id o' hne hf hb hb' => by
  simp [blk] at hb
  subst hb
  exact Nat.lt_irrefl _ (h.r.sep id o' _ hf hb').2.2) hdn
 refine ⟨_, rfl, _, ok, r1.addR (fun T' t' x' hf p hp => ?_), h'.f⟩
 obtain ⟨u, hu, hq⟩ := hrs p hp
 refine ⟨w.heap.size, u, by simp, ?_, repR_of (RepR.kill_ (m := m) (hp := st.hp) (fun id h => by simp [h]) (fun id h => by simp only [St.mk0]; rw [fnd_ins]; simp [h]) (cAny_no hd p hp) hq)⟩
 unfold World.cell?
 rw [heap_alloc_new w _]
 simpa using hu
theorem Here.newRow (h : Here P cx w0 ok0 m ok st a w) (d : Nat) (e : TypeId) (t : Ty) (xs : List t.D) (cells : Array Value) (hr : RepL (Rep w ok t) xs cells.toList) (hm : xs.length ≤ maxLen) :
 Nxt w0 ok0 (fun s => s = st.mk_ d (.row e t xs) (.row d)) (a.put (some d) (.slice (some ⟨w.heap.size, 0, none⟩) xs.length xs.length)) (w.alloc (.cells cells e)) := by
 have h' := h.alloc (.cells cells e)
 have hl := RepL.len (fun x c (r : Rep w ok t x c) => r.len) hr
 have hr' := RepL.imp (fun x c (r : Rep w ok t x c) => r.move (w' := w.alloc (.cells cells e)) (fun b hb => alloc_same w _ b (h.r.okb b hb)) (ok' := ok) (fun _ h => h)) hr
 refine ⟨_, rfl, _, ok, h'.r.mk_ d (.row e t xs) (.row d) (.slice (some ⟨w.heap.size, 0, none⟩) xs.length xs.length) _ ⟨cells.toList, ⟨hl, .inr ⟨w.heap.size, xs.length, cells, rfl, Nat.zero_le _, heap_alloc_new w _, Nat.le_refl _, hm, by simpa using hl, ?_⟩⟩, hr'⟩ ?_ ?_ ?_, h'.f⟩
 · rw [List.take_of_length_le (by omega)]
 · intro T' t' x' hf
   simp
 · intro b hb
   simp [blk] at hb
   subst hb
   exact ⟨fun hk => Nat.lt_irrefl _ (h.r.okb _ hk), h.r.keep.old (Nat.le_refl _), by simp⟩
 · intro b id o' hne hf hb hb'
   simp [blk] at hb
   subst hb
   exact Nat.lt_irrefl _ (h.r.sep id o' _ hf hb').2.2
theorem Here.newRowC (h : Here P cx w0 ok0 m ok st a w) (d : Nat) (e : TypeId) (t : Ty) (xs : List t.D) (cells : Array Value) (c : Nat) (hr : RepL (Rep w ok t) xs (cells.toList.take (xs.length * t.size))) (hs : cells.size = c * t.size) (hc : xs.length ≤ c) (hm : c ≤ maxLen) :
 Nxt w0 ok0 (fun s => s = st.mk_ d (.row e t xs) (.row d)) (a.put (some d) (.slice (some ⟨w.heap.size, 0, none⟩) xs.length c)) (w.alloc (.cells cells e)) := by
 have h' := h.alloc (.cells cells e)
 have hl := RepL.len (fun x c (r : Rep w ok t x c) => r.len) hr
 have hr' := RepL.imp (fun x c (r : Rep w ok t x c) => r.move (w' := w.alloc (.cells cells e)) (fun b hb => alloc_same w _ b (h.r.okb b hb)) (ok' := ok) (fun _ h => h)) hr
 refine ⟨_, rfl, _, ok, h'.r.mk_ d (.row e t xs) (.row d) (.slice (some ⟨w.heap.size, 0, none⟩) xs.length c) _ ⟨_, ⟨hl, .inr ⟨w.heap.size, c, cells, rfl, Nat.zero_le _, heap_alloc_new w _, hc, hm, hs, rfl⟩⟩, hr'⟩ ?_ ?_ ?_, h'.f⟩
 · intro T' t' x' hf
   simp
 · intro b hb
   simp [blk] at hb
   subst hb
   exact ⟨fun hk => Nat.lt_irrefl _ (h.r.okb _ hk), h.r.keep.old (Nat.le_refl _), by simp⟩
 · intro b id o' hne hf hb hb'
   simp [blk] at hb
   subst hb
   exact Nat.lt_irrefl _ (h.r.sep id o' _ hf hb').2.2
theorem op_move (h : Here P cx w0 ok0 m ok st a w) {x : Operand} (ho : o.op = .move x) (hk : K (st.put o.dst (opA cx st o.type x))) : o.wp P a w (Nxt w0 ok0 K) Q :=
 h.val (h.r.op cx o.type x) (by simp [execOp, ho]) hk
theorem rnm_rel {id nm : Nat} {st : St} (h : RelE w0 ok0 st a w) : RelE w0 ok0 (rnm id nm st) a w := by
 unfold rnm
 rw [nbeq, nblt]
 by_cases e : id = nm
 · simp only [e, decide_true, Bool.true_or, cond_true]; exact h
 · by_cases hl : nm < st.n
   · simp only [e, hl, decide_true, decide_false, Bool.not_true, Bool.or_false, cond_false]
     split
     · rename_i o hf
       obtain ⟨m, ok, r, f⟩ := h
       exact ⟨_, ok, r.ren0 e hf fun v hv => by have := (r.pins nm v hv).1; omega, f⟩
     · exact h
   · simp only [hl, decide_false, Bool.not_false, Bool.or_true, cond_true]; exact h
theorem rnmV_rel {b : AV0} {nm : Nat} {st : St} (h : RelE w0 ok0 st a w) : RelE w0 ok0 (rnmV b nm st) a w := by
 unfold rnmV
 split
 · exact rnm_rel h
 · exact rnm_rel h
 · exact h
theorem renL_rel {d : Nat} : ∀ {l : List (Nat × Nat × Nat)} {st : St}, RelE w0 ok0 st a w → RelE w0 ok0 (renL d l st) a w
 | [], st, h => h
 | (0, _, nm) :: r, st, h => by
  unfold renL
  split
  · exact renL_rel (rnmV_rel h)
  · exact renL_rel h
 | (k + 1, off, nm) :: r, st, h => by
  unfold renL
  exact renL_rel (rnmV_rel h)
theorem op_assign (h : Here P cx w0 ok0 m ok st a w) {x : Operand} (ho : o.op = .assign x) (hk : aop cx o K st) : o.wp P a w (Nxt w0 ok0 K) Q := by
 have hrun : (execOp a.eval o).run P w = .ok (.value (a.eval x)) w := by simp [execOp, ho]
 have hplain : K (st.put o.dst (opA cx st o.type x)) → o.wp P a w (Nxt w0 ok0 K) Q := fun hk => h.val (h.r.op cx o.type x) hrun hk
 unfold aop at hk
 rw [ho] at hk
 simp only at hk
 cases hd : o.dst with
 | none => rw [hd] at hk; exact hplain (by rw [hd]; exact hk)
 | some d =>
  rw [hd] at hk
  cases x with
  | tmp i =>
   simp only at hk
   split at hk
   · rename_i id hg
     rw [nbeq] at hk
     by_cases e : id = d
     · simp only [e, decide_true, cond_true] at hk
       refine h.val (x := .v (.row d)) ?_ hrun (by rw [hd]; exact hk)
       have := h.r.env i
       rw [hg, e] at this
       exact this
     · simp only [e, decide_false, cond_false] at hk
       split at hk
       · rename_i e1 t xs hf
         obtain ⟨hlt, hk⟩ := stat_out hk
         rw [nblt, decide_eq_true_eq] at hlt
         refine wp_val hrun ⟨_, hk, ?_⟩
         rw [hd]
         have hi := h.r.env i
         rw [hg] at hi
         have hv : a.tmps.getD i undef = m id := hi _ _ _ hf
         refine ⟨_, ok, (h.r.ren0 e hf fun v hv => by have := (h.r.pins d v hv).1; omega).put ?_ _, h.f⟩
         intro e' t' xs' hf'
         show a.tmps.getD i undef = _
         rw [hv]; simp
       · exact hk.elim
   · refine wp_val hrun ⟨_, hk, ?_⟩
     rw [hd]
     have hi := h.r.env i
     exact renL_rel ⟨m, ok, h.r.put hi _, h.f⟩
  | const c =>
   simp only at hk
   cases hn : cx.nilrow d with
   | false => rw [hn] at hk; exact hplain (by rw [hd]; exact hk)
   | true =>
    rw [hn] at hk
    simp only [cond_true] at hk
    split at hk
    · rename_i e t hty
      refine wp_val hrun ⟨_, hk, ?_⟩
      rw [hd]
      refine ⟨_, ok, h.r.mk_ d (.row e t []) (.row d) (.slice none 0 0) _ ⟨[], World.ownsRow_nil _ _ _ _, rfl⟩ ?_ (fun b hb => by simp [blk] at hb) (fun b id o' hne hf hb => by simp [blk] at hb), h.f⟩
      intro e' t' xs' hf'
      simp [Act.eval]
    · exact hk.elim
  | global g => simp only at hk; exact hplain (by rw [hd]; exact hk)
  | func f => simp only at hk; exact hplain (by rw [hd]; exact hk)
theorem op_pick (h : Here P cx w0 ok0 m ok st a w) {c x y : Operand} (ho : o.op = .pick c x y) (hk : aop cx o K st) : o.wp P a w (Nxt w0 ok0 K) Q := by
 unfold aop at hk
 rw [ho] at hk
 simp only at hk
 split at hk
 · rename_i b hc
   have hv := h.r.op cx 0 c
   rw [hc] at hv
   have hv : a.eval c = .bool b := RepV.bool hv
   cases b with
   | true => exact h.val (h.r.op cx o.type x) (by simp [execOp, ho, hv, asBool]) hk
   | false => exact h.val (h.r.op cx o.type y) (by simp [execOp, ho, hv, asBool]) hk
 · exact hk.elim
theorem op_alloc (h : Here P cx w0 ok0 m ok st a w) {T : TypeId} (ho : o.op = .alloc T) (hk : aop cx o K st) : o.wp P a w (Nxt w0 ok0 K) Q := by
 unfold aop at hk
 rw [ho] at hk
 simp only at hk
 split at hk
 · rename_i d t hd ht
   obtain ⟨i, z, hi, hs, hz, hc⟩ := (h.cx.ty T t ht).inf.out
   refine wp_val (v := .pointer (some ⟨w.heap.size, 0, none⟩)) (w' := w.alloc (.cells z.cells T)) ?_ ?_
   · simp [execOp, ho, Instr.alloc, zeroValue, typeInfo, hi, hz, newVar, newRow]
   · rw [hd]
     obtain ⟨s, rfl, hr⟩ := h.newBox d T t t.zero z.cells (by rw [hc]; exact Rep.zero t (h.cx.np T t ht))
     exact ⟨_, hk, hr⟩
 · exact hk.elim
theorem op_box (h : Here P cx w0 ok0 m ok st a w) {T : TypeId} {x : Operand} (ho : o.op = .box T x) (hk : aop cx o K st) : o.wp P a w (Nxt w0 ok0 K) Q := by
 unfold aop at hk
 rw [ho] at hk
 simp only at hk
 split at hk
 · rename_i d hd
   split at hk
   · rename_i t t' x' rs ht hx
     split at hk
     · rename_i y hc
       obtain ⟨hca, hk⟩ := stat_out hk
       simp only [Bool.and_eq_true, Bool.not_eq_true', nblt, decide_eq_true_eq] at hca
       have hv := h.r.op cx T x
       rw [hx] at hv
       obtain ⟨cs, e, hrep, hrs⟩ := hv
       refine wp_val (v := .pointer (some ⟨w.heap.size, 0, none⟩)) (w' := w.alloc (.cells cs.toArray T)) ?_ ?_
       · simp [execOp, ho, Instr.box, newVar, newRow, e, Value.cells]
       · rw [hd]
         obtain ⟨s, rfl, hr⟩ := h.newBoxR d T t y rs cs.toArray (by simpa using cast?_rep hc hrep) hca.1 hca.2 (by simpa using hrs)
         exact ⟨_, hk, hr⟩
     · exact hk.elim
   unfold boxOf at hk
   split at hk
   · rename_i t t' y ht hx
     split at hk
     · rename_i y' hc
       obtain ⟨ok', ⟨h1, h2, h3⟩, h'⟩ := h.frozen (opA cx st T x).ids
       have hv := roV_rep h.r h1 h3 h2 (h.r.op cx T x)
       rw [hx] at hv
       have hv : RepV w ok' t' y (a.eval x) := hv
       refine wp_val (v := .pointer (some ⟨w.heap.size, 0, none⟩)) (w' := w.alloc (.cells (a.eval x).cells T)) ?_ ?_
       · simp [execOp, ho, Instr.box, newVar, newRow]
       · rw [hd]
         obtain ⟨s, rfl, hr⟩ := h'.newBox d T t y' (a.eval x).cells (cast?_repV hc hv).cells
         exact ⟨_, hk, hr⟩
     · exact hk.elim
   · exact hk.elim
 · exact hk.elim
theorem op_extract (h : Here P cx w0 ok0 m ok st a w) {x : Operand} {i : Nat} (ho : o.op = .extract x i) (hk : aop cx o K st) : o.wp P a w (Nxt w0 ok0 K) Q := by
 unfold aop at hk
 rw [ho] at hk
 simp only at hk
 split at hk
 · rename_i l hc
   have hv := h.r.op cx 0 x
   rw [hc] at hv
   obtain ⟨us, e, hl, hr⟩ := hv
   split at hk
   · rename_i y hi
     obtain ⟨u, hu, hr⟩ := hr i y hi
     exact h.val (x := .v y) (v := u) hr (by simp [execOp, ho, Instr.extract, e, hu]) hk
   · exact hk.elim
 · exact hk.elim
theorem op_nilCheck (h : Here P cx w0 ok0 m ok st a w) {x : Operand} (ho : o.op = .nilCheck x) (hk : aop cx o K st) : o.wp P a w (Nxt w0 ok0 K) Q := by
 unfold aop at hk
 rw [ho] at hk
 simp only [one] at hk
 split at hk
 · rename_i y hc
   have hv := h.r.op cx 0 x
   rw [hc] at hv
   have hv : RepA0 w ok m st.hp y (a.eval x) := hv
   split at hk
   · rename_i t z hv
     have hv' := hv
     obtain ⟨ad, cs, e, _⟩ := hv'
     exact h.val (x := .v (.rptr _ _)) hv (by simp [execOp, ho, e]) hk
   · rename_i i f hv0
     split at hk
     · rename_i T t z hf
       have hv' := hv
       obtain ⟨b, e1, e⟩ := hv' _ _ _ hf
       exact h.val (x := .v (.ptr i f)) hv (by simp [execOp, ho, e]) hk
     · exact hk.elim
   · rename_i f hv0
     have e : a.eval x = .func (.func f) #[] #[] := hv
     exact h.val (x := .v (.fn f)) hv (by simp [execOp, ho, e]) hk
   · exact hk.elim
 · exact hk.elim
end
end Go.Iv
