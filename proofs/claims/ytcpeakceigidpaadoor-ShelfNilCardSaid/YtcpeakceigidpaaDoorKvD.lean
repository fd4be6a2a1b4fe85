/- Operations proved against the model, eighth part: literals; calls. -/
import Derived.Test.YtcpeakceigidpaaDoorKvF
set_option linter.all false
namespace Go.Iv
open Go.RowKit
variable [GL]
section
variable {P : Program} {cx : Cx} {w0 : Bas} {w : World} {ok0 ok : Nat → Prop} {m : Nat → Value} {st : St} {a : Act} {o : Oper} {K : St → Prop} {Q : Exit → Act → World → Prop}
theorem splice (off : Nat) : ∀ (vs : List Value) (k : Nat) (cells : Array Value) (pre d post : List Value), cells.toList = pre ++ d ++ post → pre.length = off + k → d.length = vs.length →
 ((vs.zipIdx k).foldl (fun (cs : Array Value) (x : Value × Nat) => cs.setIfInBounds (off + x.2) x.1) cells).toList = pre ++ vs ++ post
 | [], k, cells, pre, d, post, h, hp, hd => by
  have : d = [] := List.eq_nil_of_length_eq_zero hd
  subst this; simpa using h
 | v :: vs, k, cells, pre, d, post, h, hp, hd => by
  obtain ⟨x, d, rfl⟩ : ∃ x d', d = x :: d' := by cases d with | nil => simp at hd | cons x d' => exact ⟨x, d', rfl⟩
  rw [List.zipIdx_cons, List.foldl_cons]
  rw [splice off vs (k + 1) _ (pre ++ [v]) d post ?_ (by simp; omega) (by simpa using hd)]
  · simp
  · simp only [Array.toList_setIfInBounds, h, ← hp]
    simp [List.set_append]
theorem fill_one {place : Nat → Option (Nat × Nat)} {cells : Array Value} {i : Nat} {v : Value} {rest : List (Nat × Value)} {off size : Nat} (hp : place i = some (off, size)) {pre d post : List Value} (hc : cells.toList = pre ++ d ++ post) (hpre : pre.length = off) (hd : d.length = size) (hv : v.cells.toList.length = size) :
 ∃ cells' : Array Value, cells'.toList = pre ++ v.cells.toList ++ post ∧ Instr.fill place cells ((i, v) :: rest) = Instr.fill place cells' rest := by
 refine ⟨(v.cells.zipIdx.foldl (fun (cs : Array Value) (x : Value × Nat) => cs.setIfInBounds (off + x.2) x.1) cells), ?_, ?_⟩
 · have := splice off v.cells.toList 0 cells pre d post hc (by omega) (by omega)
   rw [← this, ← Array.foldl_toList]
   congr 2
   simp
 · simp only [Instr.fill, hp]
   have hsz : cells.size = pre.length + d.length + post.length := by rw [← Array.length_toList, hc]; simp; omega
   have hvs : v.cells.size = size := by simpa using hv
   rw [if_neg]
   simp only [hvs, ne_eq, not_true, decide_false, Bool.false_or, decide_eq_true_eq, gt_iff_lt]
   omega
theorem fset_tv {t : Ty} {x x' : t.D} {f : Nat} {y : AV0} (h : fset t x f y = some x') : ∃ t' z, y = .tv t' z := by
 induction t generalizing f with
 | pair a b _ ihb =>
  obtain ⟨x1, x2⟩ := x
  cases f with
  | zero => cases y <;> first | exact ⟨_, _, rfl⟩ | (simp [fset] at h)
  | succ f =>
   simp only [fset] at h
   cases h1 : fset b x2 f y with
   | none => rw [h1] at h; simp at h
   | some z => exact ihb h1
 | _ => simp [fset] at h
theorem fset_rep : ∀ {t : Ty} {x x' : t.D} {f : Nat} {t' : Ty} {y : t'.D} {cs d' : List Value}, fset t x f (.tv t' y) = some x' → Rep w ok t x cs → Rep w ok t' y d' →
 ∃ o ft c d e, fld t f = some (o, ft) ∧ cs = c ++ d ++ e ∧ c.length = o ∧ d.length = ft.size ∧ d'.length = ft.size ∧ Rep w ok t x' (c ++ d' ++ e) := by
 intro t
 induction t with
 | pair a b _ ihb =>
  intro x x' f t' y cs d' h r r'
  obtain ⟨x1, x2⟩ := x
  obtain ⟨c1, c2, rfl, r1, r2⟩ := r
  cases f with
  | zero =>
   simp only [fset] at h
   cases hc : cast? t' a y with
   | none => rw [hc] at h; simp at h
   | some z =>
    rw [hc] at h; simp at h; subst h
    have rz := cast?_rep hc r'
    exact ⟨0, a, [], c1, c2, rfl, by simp, rfl, r1.len, rz.len, d', c2, by simp, rz, r2⟩
  | succ f =>
   simp only [fset] at h
   cases h1 : fset b x2 f (.tv t' y) with
   | none => rw [h1] at h; simp at h
   | some z =>
    rw [h1] at h; simp at h; subst h
    obtain ⟨o, ft, c, d, e, hf, rfl, hl, hd, hd', rr⟩ := ihb h1 r2 r'
    refine ⟨a.size + o, ft, c1 ++ c, d, e, by simp only [fld, hf], by simp, by simp [hl, r1.len], hd, hd', c1, _, by simp, r1, rr⟩
 | _ => intro x x' f t' y cs d' h; simp [fset] at h
theorem run_mapM {α β : Type} (f : α → Sem β) (g : α → β) : ∀ l : List α, (∀ x ∈ l, (f x).run P w = .ok (g x) w) → (l.mapM f).run P w = .ok (l.map g) w
 | [], _ => by simp
 | x :: l, h => by
  rw [List.mapM_cons]
  simp [h x (by simp), run_mapM f g l (fun y hy => h y (by simp [hy]))]
theorem chain_types : ∀ {t : Ty} {fs : List Field} {off : Nat}, (TyPF P t).2 fs off → ∀ fl ∈ fs, ∃ ft, TyP P ft fl.type := by
 intro t
 induction t with
 | unit => intro fs off h fl hfl; have h : fs = [] := h; subst h; simp at hfl
 | pair a b _ ihb =>
  intro fs off h fl hfl
  obtain ⟨f, r, rfl, h1, _, _, _, h5⟩ := h
  rcases List.mem_cons.1 hfl with rfl | hfl
  · exact ⟨a, h1⟩
  · exact ihb h5 fl hfl
 | _ => intro fs off h; exact h.elim
theorem fillF_run (r : Rel w0 m ok st a w) {ok' : Nat → Prop} (h1 : ∀ b, ok b → ok' b) {t : Ty} {place : Nat → Option (Nat × Nat)} (hp : ∀ f o ft, fld t f = some (o, ft) → place f = some (o, ft.size)) :
 ∀ (parts : List (Nat × Operand)) (x x' : t.D) (cells : Array Value), (∀ d, d ∈ idsP (partsF st t parts) → ∀ o, fnd d st.hp = some o → ∀ b, blk (m d) = some b → ok' b) →
  fills t x (roP st.hp (partsF st t parts)) = some x' → Rep w ok' t x cells.toList → ∃ cells', Instr.fill place cells (parts.map fun p => (p.1, a.eval p.2)) = some cells' ∧ Rep w ok' t x' cells'.toList
 | [], x, x', cells, _, h, hr => by simp [partsF, roP, fills] at h; subst h; exact ⟨cells, rfl, hr⟩
 | (f, y) :: parts, x, x', cells, hids, h, hr => by
  simp only [partsF] at h hids
  cases hf : fld t f with
  | none =>
   rw [hf] at h
   simp only [roP, fills, AV.ro, AV0.ro] at h
   split at h
   · rename_i z hz
     obtain ⟨t', z', e⟩ := fset_tv hz
     cases e
   · cases h
  | some p =>
   obtain ⟨o, ft⟩ := p
   rw [hf] at h hids
   simp only [roP, fills] at h
   simp only [idsP] at hids
   have hv := roV_rep (hp' := st.hp) r h1 (fun _ _ h => h) (fun d hd => hids d (List.mem_append.2 (.inl hd))) (r.opT ft y)
   split at h
   · rename_i z hz
     obtain ⟨t', z', e⟩ := fset_tv hz
     rw [e] at hz hv
     have hv : RepV w ok' t' z' (a.eval y) := hv
     obtain ⟨o2, ft2, c, d, e2, hf2, hcs, hl, hd, hd', rr⟩ := fset_rep hz hr hv.cells
     rw [hf] at hf2; cases hf2
     obtain ⟨cells', hc', he⟩ := fill_one (v := a.eval y) (rest := parts.map fun p => (p.1, a.eval p.2)) (hp f _ _ hf) hcs hl hd hd'
     obtain ⟨cells2, hfin, hrep⟩ := fillF_run r h1 hp parts z x' cells' (fun d hd => hids d (List.mem_append.2 (.inr hd))) h (by rw [hc']; exact rr)
     exact ⟨cells2, by rw [List.map_cons, he]; exact hfin, hrep⟩
   · cases h
theorem hole_rep {w : World} {ok : Nat → Prop} : ∀ {t : Ty} {f o : Nat} {k : HK} {x : t.D} {cs : List Value}, fld t f = some (o, .hole k) → Rep w ok t x cs → ∃ c d e, cs = c ++ d ++ e ∧ c.length = o ∧ d.length = 1 ∧ ∀ v : Value, v.oneCell' = true → Rep w ok t x (c ++ [v] ++ e) := by
 intro t
 induction t with
 | pair a b iha ihb =>
  intro f o k x cs h r
  obtain ⟨x1, x2⟩ := x
  obtain ⟨c1, c2, rfl, r1, r2⟩ := r
  cases f with
  | zero =>
   simp only [fld, Option.some.injEq, Prod.mk.injEq] at h
   obtain ⟨rfl, rfl⟩ := h
   exact ⟨[], c1, c2, by simp, rfl, r1.len, fun v hv => ⟨[v], c2, by simp, ⟨v, rfl, hv⟩, r2⟩⟩
  | succ f =>
   simp only [fld] at h
   split at h
   · rename_i o1 t1 hf
     simp only [Option.some.injEq, Prod.mk.injEq] at h
     obtain ⟨rfl, rfl⟩ := h
     obtain ⟨c, d, e, rfl, hl, hd, hr⟩ := ihb hf r2
     exact ⟨c1 ++ c, d, e, by simp, by simp [hl, r1.len], hd, fun v hv => ⟨c1, c ++ [v] ++ e, by simp, r1, hr v hv⟩⟩
   · cases h
 | _ => intro f o k x cs h; simp [fld] at h
theorem outR_spec {o n : Nat} : ∀ {rs : List (Nat × Nat)}, outR o n rs = true → ∀ p ∈ rs, p.1 < o ∨ o + n ≤ p.1
 | [], _, p, hp => by simp at hp
 | q :: r, h, p, hp => by
  simp only [outR, nblt] at h
  by_cases hq : q.1 < o ∨ o + n ≤ q.1
  · have e : (decide (q.1 < o) || !decide (q.1 < o + n)) = true := by
     rcases hq with hq | hq
     · simp [hq]
     · simp [Nat.not_lt.2 hq]
    rw [e, cond_true] at h
    rcases List.mem_cons.1 hp with rfl | hp
    · exact hq
    · exact outR_spec h p hp
  · have e : (decide (q.1 < o) || !decide (q.1 < o + n)) = false := by simp; omega
    rw [e] at h; cases h
def OneV (v : Value) : Prop := v.oneCell' = true ∧ v.cells.toList = [v]
theorem codeA_rep (r : Rel w0 m ok st a w) {q : AV} {c : Nat} {v : Value} (h : codeA st.hp q = some c) (hq : RepA w ok m st.hp q v) : RepR m st.hp (cAV c) v ∧ OneV v := by
 unfold codeA at h
 split at h
 · rename_i i
   split at h
   · rename_i e t xs hf
     cases h
     rw [cAV_row]
     refine ⟨hq, ?_⟩
     have hv : v = m i := hq _ _ _ hf
     obtain ⟨inner, hown, _⟩ := r.ob i _ hf
     rcases hown.2 with ⟨e, _⟩ | ⟨g, cap, cur, e, _⟩
     · rw [hv, e]; exact ⟨rfl, rfl⟩
     · rw [hv, e]; exact ⟨rfl, rfl⟩
   · cases h
 · rename_i i
   split at h
   · rename_i T t x hf
     cases h
     rw [cAV_ptr]
     refine ⟨hq, ?_⟩
     obtain ⟨b, _, e⟩ := hq _ _ _ hf
     rw [e]; exact ⟨rfl, rfl⟩
   · cases h
 · cases h
   have e : v = .pointer none := hq
   exact ⟨e, by rw [e]; exact ⟨rfl, rfl⟩⟩
 · cases h
theorem at_keep {c d d' e : List Value} {o n q : Nat} {u : Value} (hc : c.length = o) (hd : d.length = n) (hd' : d'.length = n) (hq : q < o ∨ o + n ≤ q) (h : (c ++ d ++ e)[q]? = some u) : (c ++ d' ++ e)[q]? = some u := by
 rcases hq with hq | hq
 · rw [List.append_assoc, List.getElem?_append_left (by omega)] at h ⊢; exact h
 · rw [List.getElem?_append_right (by rw [List.length_append]; omega)] at h ⊢
   rw [List.length_append, hc] at h ⊢
   rw [hd] at h; rw [hd']; exact h
theorem recF_run (r : Rel w0 m ok st a w) {t : Ty} {place : Nat → Option (Nat × Nat)} (hp : ∀ f o ft, fld t f = some (o, ft) → place f = some (o, ft.size)):
 ∀ (parts : List (Nat × Operand)) (x x' : t.D) (rs rs' : List (Nat × Nat)) (cells : Array Value),
  recA t st.hp x rs (partsF st t parts) = some (x', rs') → Rep w ok t x cells.toList → (∀ p ∈ rs, ∃ u, cells.toList[p.1]? = some u ∧ RepR m st.hp (cAV p.2) u) → ∃ cells', Instr.fill place cells (parts.map fun p => (p.1, a.eval p.2)) = some cells' ∧ Rep w ok t x' cells'.toList ∧ ∀ p ∈ rs', ∃ u, cells'.toList[p.1]? = some u ∧ RepR m st.hp (cAV p.2) u
 | [], x, x', rs, rs', cells, h, hr, hk => by simp [partsF, recA] at h; obtain ⟨rfl, rfl⟩ := h; exact ⟨cells, rfl, hr, hk⟩
 | (f, y) :: parts, x, x', rs, rs', cells, h, hr, hk => by
  simp only [partsF] at h
  cases hf : fld t f with
  | none =>
   rw [hf] at h
   simp only [recA, hf] at h
   cases h
  | some p =>
   obtain ⟨o, ft⟩ := p
   rw [hf] at h
   have hv := r.opT ft y
   simp only [recA, hf] at h
   have hole : ∀ k, ft = .hole k → ∃ cells', Instr.fill place cells (((f, y) :: parts).map fun p => (p.1, a.eval p.2)) = some cells' ∧ Rep w ok t x' cells'.toList ∧ ∀ p ∈ rs', ∃ u, cells'.toList[p.1]? = some u ∧ RepR m st.hp (cAV p.2) u := by
    rintro k rfl
    simp only at h
    split at h
    · rename_i c hc
      cases ho : outR o 1 rs with
      | false => rw [ho] at h; cases h
      | true =>
       rw [ho, cond_true] at h
       obtain ⟨hcr, h1, h2⟩ := codeA_rep r hc hv
       obtain ⟨c1, d, e, hcs, hl, hd, hrr⟩ := hole_rep hf hr
       obtain ⟨cells', hc', he⟩ := fill_one (v := a.eval y) (rest := parts.map fun p => (p.1, a.eval p.2)) (hp f _ _ hf) hcs hl hd (by rw [h2]; rfl)
       rw [h2] at hc'
       obtain ⟨cells2, g1, g2, g3⟩ := recF_run r hp parts x x' ((o, c) :: rs) rs' cells' h (by rw [hc']; exact hrr _ h1) (fun p hpp => by
        rw [hc']
        rcases List.mem_cons.1 hpp with rfl | hpp
        · exact ⟨a.eval y, by rw [List.append_assoc, List.getElem?_append_right (by omega)]; simp [hl], hcr⟩
        · obtain ⟨u, hu, hq⟩ := hk p hpp
          exact ⟨u, at_keep hl hd rfl (outR_spec ho p hpp) (by rw [← hcs]; exact hu), hq⟩)
       exact ⟨cells2, by rw [List.map_cons, he]; exact g1, g2, g3⟩
    · cases h
   have plain : (match opT st ft y with
    | .v (.tv t' z) => (match fset t x f (.tv t' z) with
     | some x => bif outR o ft.size rs then recA t st.hp x rs (partsF st t parts) else none
     | none => none)
    | _ => none) = some (x', rs') → ∃ cells', Instr.fill place cells (((f, y) :: parts).map fun p => (p.1, a.eval p.2)) = some cells' ∧ Rep w ok t x' cells'.toList ∧ ∀ p ∈ rs', ∃ u, cells'.toList[p.1]? = some u ∧ RepR m st.hp (cAV p.2) u := by
    intro h
    split at h
    · rename_i t' z' hq
      rw [hq] at hv
      have hv : RepV w ok t' z' (a.eval y) := hv
      split at h
      · rename_i x1 hz
        cases ho : outR o ft.size rs with
        | false => rw [ho] at h; cases h
        | true =>
         rw [ho, cond_true] at h
         obtain ⟨o2, ft2, c, d, e2, hf2, hcs, hl, hd, hd', rr⟩ := fset_rep hz hr hv.cells
         rw [hf] at hf2; cases hf2
         obtain ⟨cells', hc', he⟩ := fill_one (v := a.eval y) (rest := parts.map fun p => (p.1, a.eval p.2)) (hp f _ _ hf) hcs hl hd hd'
         obtain ⟨cells2, g1, g2, g3⟩ := recF_run r hp parts x1 x' rs rs' cells' h (by rw [hc']; exact rr) (fun p hpp => by
          obtain ⟨u, hu, hq⟩ := hk p hpp
          exact ⟨u, by rw [hc']; exact at_keep hl hd hd' (outR_spec ho p hpp) (by rw [← hcs]; exact hu), hq⟩)
         exact ⟨cells2, by rw [List.map_cons, he]; exact g1, g2, g3⟩
      · cases h
    · cases h
   cases ft with
   | hole k => exact hole k rfl
   | _ => exact plain h
theorem holeAt_z : ∀ {t : Ty} {off : Nat}, isSlH (holeAt t off) = true → t.zcells[off]? = some (.slice none 0 0)
 | .pair a b, off, h => by
  simp only [holeAt, nblt] at h
  have hl : a.zcells.length = a.size := zcells_len a
  by_cases hq : off < a.size
  · simp only [hq, decide_true, cond_true] at h
    simp only [Ty.zcells]
    rw [List.getElem?_append_left (by omega)]; exact holeAt_z h
  · simp only [hq, decide_false, cond_false] at h
    simp only [Ty.zcells]
    rw [List.getElem?_append_right (by omega), hl]; exact holeAt_z h
 | .hole .sl, 0, _ => rfl
 | .hole .ptr, 0, h => by simp [holeAt, isSlH] at h
 | .hole k, off + 1, h => by simp [holeAt, isSlH] at h
 | .int _, _, h => by simp [holeAt, isSlH] at h
 | .bool, _, h => by simp [holeAt, isSlH] at h
 | .str, _, h => by simp [holeAt, isSlH] at h
 | .unit, _, h => by simp [holeAt, isSlH] at h
 | .arr _ _, _, h => by simp [holeAt, isSlH] at h
 | .sl _ _, _, h => by simp [holeAt, isSlH] at h
 | .pt _, _, h => by simp [holeAt, isSlH] at h
 | .op _, _, h => by simp [holeAt, isSlH] at h
theorem zrow_run : ∀ (hz : List (Nat × Nat × TypeId)) {m : Nat → Value} {st st1 : St}, Here P cx w0 ok0 m ok st a w → zrow cx.ty hz st = some st1 → ∃ m1, Here P cx w0 ok0 m1 ok st1 a w ∧ (∀ p ∈ hz, m1 p.2.1 = .slice none 0 0) ∧ ∀ i, m i = .slice none 0 0 → m1 i = .slice none 0 0
 | [], m, st, st1, h, e => by cases e; exact ⟨m, h, fun p hp => by simp at hp, fun i hi => hi⟩
 | p :: r, m, st, st1, h, e => by
  simp only [zrow] at e
  split at e
  · rename_i e1 t1 hT
    rw [nblt] at e
    by_cases hd : p.2.1 < st.n
    · simp only [hd, decide_true, cond_true] at e
      have r1 := h.r.mkN p.2.1 (.row e1 t1 []) (.slice none 0 0) ⟨[], ⟨by simp, .inl ⟨rfl, rfl⟩⟩, rfl⟩ (fun b hb => by cases hb) (fun b id o' _ _ hb => by cases hb) hd
      obtain ⟨m1, h1, h2, h3⟩ := zrow_run r ⟨h.cx, r1, h.f⟩ e
      refine ⟨m1, h1, fun q hq => ?_, fun i hi => h3 i (by simp only [hi]; split <;> rfl)⟩
      rcases List.mem_cons.1 hq with rfl | hq
      · exact h3 _ (by simp)
      · exact h2 q hq
    · simp only [hd, decide_false, cond_false] at e; cases e
  · cases e
theorem zrs_rep {t : Ty} {m1 : Nat → Value} {hp : List (Nat × Ob)} : ∀ (hz : List (Nat × Nat × TypeId)), zOK t hz = true → ((∀ p ∈ hz, m1 p.2.1 = .slice none 0 0) ∧ ∀ i, m i = .slice none 0 0 → m1 i = .slice none 0 0) → ∀ p ∈ zrs hz, ∃ u, t.zcells[p.1]? = some u ∧ RepR m1 hp (cAV p.2) u
 | [], _, _, p, hp => by simp [zrs] at hp
 | q :: r, h, hm, p, hp => by
  simp only [zOK, Bool.and_eq_true] at h
  simp only [zrs] at hp
  rcases List.mem_cons.1 hp with rfl | hp
  · refine ⟨_, holeAt_z h.1, ?_⟩
    rw [cAV_row]
    exact fun e t xs hf => (hm.1 q (List.mem_cons_self ..)).symm
  · exact zrs_rep r h.2 ⟨fun p hp => hm.1 p (List.mem_cons_of_mem _ hp), hm.2⟩ p hp
theorem fillL_run (r : Rel w0 m ok st a w) {ok' : Nat → Prop} (h1 : ∀ b, ok b → ok' b) {t : Ty} :
 ∀ (parts : List (Nat × Operand)) (xs xs' : List t.D) (cells : Array Value), (∀ d, d ∈ idsP (partsL st t parts) → ∀ o, fnd d st.hp = some o → ∀ b, blk (m d) = some b → ok' b) →
  fillL t xs (roP st.hp (partsL st t parts)) = some xs' → RepL (Rep w ok' t) xs cells.toList → ∃ cells', Instr.fill (fun i => some (i * t.size, t.size)) cells (parts.map fun p => (p.1, a.eval p.2)) = some cells' ∧ RepL (Rep w ok' t) xs' cells'.toList ∧ xs'.length = xs.length
 | [], xs, xs', cells, _, h, hr => by simp [partsL, roP, fillL] at h; subst h; exact ⟨cells, rfl, hr, rfl⟩
 | (f, y) :: parts, xs, xs', cells, hids, h, hr => by
  simp only [partsL, roP] at h hids
  simp only [idsP] at hids
  have hv := roV_rep (hp' := st.hp) r h1 (fun _ _ h => h) (fun d hd => hids d (List.mem_append.2 (.inl hd))) (r.opT t y)
  generalize AV.ro st.hp (opT st t y) = q at h hv
  cases q with
  | tv t' z' =>
   simp only [fillL] at h
   split at h
   · rename_i z hz
     rw [nblt] at h
     by_cases hlt : f < xs.length
     · simp only [hlt, decide_true, cond_true] at h
       have hv : RepV w ok' t' z' (a.eval y) := hv
       have rz := cast?_repV hz hv
       obtain ⟨c, d, e, hcs, hl, hd, hdl⟩ := RepL.get (s := t.size) (fun x c r => Rep.len r) hr hlt
       obtain ⟨cells', hc', he⟩ := fill_one (v := a.eval y) (rest := parts.map fun p => (p.1, a.eval p.2)) (place := fun i => some (i * t.size, t.size)) (i := f) rfl hcs hl hdl rz.cells.len
       have hset := RepL.set (R := Rep w ok' t) (s := t.size) (fun x c r => Rep.len r) (hcs ▸ hr) hl hdl hlt rz.cells
       obtain ⟨cells2, hfin, hrep, hlen⟩ := fillL_run r h1 parts _ xs' cells' (fun d hd => hids d (List.mem_append.2 (.inr hd))) h (by rw [hc']; exact hset)
       exact ⟨cells2, by rw [List.map_cons, he]; exact hfin, hrep, by rw [hlen, List.length_set]⟩
     · simp [hlt] at h
   · cases h
  | _ => simp [fillL] at h
theorem op_build (h : Here P cx w0 ok0 m ok st a w) {T : TypeId} {parts : Array (Nat × Operand)} (ho : o.op = .build T parts) (hk : aop cx o K st) : o.wp P a w (Nxt w0 ok0 K) Q := by
 unfold aop at hk
 rw [ho] at hk
 simp only at hk
 split at hk
 · rename_i t ht
   have hst : t.isSt = true ∨ (t.isSt = false ∧ ∃ v, arrV st parts.toList t = some v ∧ K ((freezes st (arrI st parts.toList t)).put o.dst (.v v))) := by
    cases hb : t.isSt with
    | true => exact .inl rfl
    | false =>
     rw [hb, cond_false] at hk
     refine .inr ⟨rfl, ?_⟩
     split at hk
     · rename_i v hv; exact ⟨v, hv, hk⟩
     · exact hk.elim
   rcases hst with hst | ⟨hst0, v, hv, hk⟩
   rotate_left
   · clear hst0
     rename_i hk0
     clear hk0
     cases t <;> simp only [arrV] at hv <;> try cases hv
     rename_i n e
     split at hv
     · rename_i xs hx
       cases hv
       have hT := h.cx.ty T _ ht
       obtain ⟨⟨el, hu, hel⟩, _⟩ := hT
       obtain ⟨i, z, hi, hs, hz, hzc⟩ := (h.cx.ty T _ ht).inf.out
       have hzv : (zeroValue T).run P w = .ok z w := by simp [zeroValue, typeInfo, hi, hz]
       obtain ⟨ok', ⟨h1, h2, h3⟩, h'⟩ := h.frozen (idsP (partsL st e parts.toList))
       have hbase : RepL (Rep w ok' e) (List.replicate n e.zero) z.cells.toList := by
        rw [hzc]
        exact RepL.replicate (Rep.zero e (show e.np = true from h.cx.np T (.arr n e) ht)) n
       obtain ⟨cells', hfill, hrep, hlen⟩ := fillL_run h.r h1 parts.toList _ xs _ h2 hx hbase
       rw [List.length_replicate] at hlen
       refine h'.val (x := .v (.tv (.arr n e) xs)) (v := .agg cells') ⟨cells'.toList, ⟨hlen, hrep⟩, by simp [Ty.isAgg]⟩ ?_ hk
       simp only [execOp, ho, Instr.build, Sem.run_bind, hzv, Result.andThen_ok, run_underlying hu, sizeOf_run hel]
       rw [Array.toList_map, hfill]
       rfl
     · cases hv
   rw [hst, cond_true] at hk
   have hT := h.cx.ty T t ht
   obtain ⟨i, z, hi, hs, hz, hzc⟩ := hT.inf.out
   have all : ∃ fs, t.isAgg = true ∧ P.underlying T = some (.struct fs) ∧ (zeroValue T).run P w = .ok z w ∧ (fs.mapM fun f => (do pure (f.offset, ← sizeOf f.type) : Sem (Nat × Nat))).run P w = .ok (fs.toList.map fun fl => (fl.offset, ((P.info? fl.type).map (·.size)).getD 0)).toArray w ∧ ∀ f o ft, fld t f = some (o, ft) → (fs.toList.map fun fl => (fl.offset, ((P.info? fl.type).map (·.size)).getD 0)).toArray[f]? = some (o, ft.size) := by
    have hzv : (zeroValue T).run P w = .ok z w := by simp [zeroValue, typeInfo, hi, hz]
    have hag : t.isAgg = true ∧ ∃ fs, P.underlying T = some (.struct fs) ∧ (∀ fl ∈ fs.toList, ∃ ft, TyP P ft fl.type) ∧ ∀ f o ft, fld t f = some (o, ft) → (fs.toList.map fun fl => (fl.offset, ((P.info? fl.type).map (·.size)).getD 0))[f]? = some (o, ft.size) := by
     have main : ∀ fs : Array Field, (TyPF P t).2 fs.toList 0 → (∀ fl ∈ fs.toList, ∃ ft, TyP P ft fl.type) ∧ ∀ f o ft, fld t f = some (o, ft) → (fs.toList.map fun fl => (fl.offset, ((P.info? fl.type).map (·.size)).getD 0))[f]? = some (o, ft.size) := by
      intro fs hch
      refine ⟨chain_types hch, fun f o ft hf => ?_⟩
      obtain ⟨fl, e1, e2, e3, _⟩ := fld_chain hch hf
      obtain ⟨i', z', hi', hs', _⟩ := e3.inf.out
      rw [List.getElem?_map, e1]
      simp [hi', hs', e2]
     cases t with
     | unit =>
      obtain ⟨⟨fs, hu, hl, _⟩, _⟩ := hT
      exact ⟨rfl, fs, hu, main fs hl⟩
     | pair p q =>
      obtain ⟨⟨fs, hu, f, r, hl, h1, h2, h3, h4, h5, _⟩, _⟩ := hT
      exact ⟨rfl, fs, hu, main fs ⟨f, r, hl, h1, h2, h3, h4, h5⟩⟩
     | _ => simp [Ty.isSt] at hst
    obtain ⟨hag, fs, hu, hft, hpl⟩ := hag
    have hrun : (fs.mapM fun f => (do pure (f.offset, ← sizeOf f.type) : Sem (Nat × Nat))).run P w = .ok (fs.toList.map fun fl => (fl.offset, ((P.info? fl.type).map (·.size)).getD 0)).toArray w := by
     rw [Array.mapM_eq_mapM_toList]
     have := run_mapM (P := P) (w := w) (fun f : Field => (do pure (f.offset, ← sizeOf f.type) : Sem (Nat × Nat))) (fun fl => (fl.offset, ((P.info? fl.type).map (·.size)).getD 0)) fs.toList (fun fl hfl => by
      obtain ⟨ft, hft⟩ := hft fl hfl
      obtain ⟨i', z', hi', _⟩ := hft.inf.out
      simp [sizeOf, typeInfo, hi'])
     simp only [Sem.run_map, this, Result.andThen_ok]
    exact ⟨fs, hag, hu, hzv, hrun, fun f o ft hf => by simpa using hpl f o ft hf⟩
   obtain ⟨fs, hag, hu, hzv, hrun, hpl⟩ := all
   split at hk
   · rename_i x hx
     obtain ⟨ok', ⟨h1, h2, h3⟩, h'⟩ := h.frozen (idsP (partsF st t parts.toList))
     obtain ⟨cells', hfill, hrep⟩ := fillF_run h.r h1 (place := fun f => (fs.toList.map fun fl => (fl.offset, ((P.info? fl.type).map (·.size)).getD 0)).toArray[f]?) hpl parts.toList t.zero x z.cells h2 hx (by rw [hzc]; exact Rep.zero t (h.cx.np T t ht))
     refine h'.val (x := .v (.tv t x)) (v := .agg cells') ⟨cells'.toList, hrep, by rw [hag, if_pos rfl]⟩ ?_ hk
     simp only [execOp, ho, Instr.build, Sem.run_bind, hzv, Result.andThen_ok, run_underlying hu, hrun]
     rw [Array.toList_map, hfill]
     rfl
   · split at hk
     · rename_i st1 hz1
       generalize cx.hz (o.dst.getD 0) = hz at *
       obtain ⟨m1, h, hm1⟩ := zrow_run hz h hz1
       split at hk
       rotate_left
       · exact hk.elim
       rename_i x rs hx
       obtain ⟨hzo, hk⟩ := stat_out hk
       obtain ⟨cells', hfill, hrep, hrs⟩ := recF_run h.r (place := fun f => (fs.toList.map fun fl => (fl.offset, ((P.info? fl.type).map (·.size)).getD 0)).toArray[f]?) hpl parts.toList t.zero x _ rs z.cells hx (by rw [hzc]; exact Rep.zero t (h.cx.np T t ht)) (by rw [hzc]; exact zrs_rep hz hzo hm1)
       refine h.val (x := .v (.str t x rs)) (v := .agg cells') ⟨cells'.toList, by simp, hrep, hrs⟩ ?_ hk
       simp only [execOp, ho, Instr.build, Sem.run_bind, hzv, Result.andThen_ok, run_underlying hu, hrun]
       rw [Array.toList_map, hfill]
       rfl
     · exact hk.elim
 · exact hk.elim
theorem op_buildSlice (h : Here P cx w0 ok0 m ok st a w) {T : TypeId} {n : Nat} {parts : Array (Nat × Operand)} (ho : o.op = .buildSlice T n parts) (hk : aop cx o K st) : o.wp P a w (Nxt w0 ok0 K) Q := by
 unfold aop at hk
 rw [ho] at hk
 simp only at hk
 split at hk
 · rename_i d e t hd ht
   split at hk
   · rename_i xs hx
     obtain ⟨hn, hk⟩ := stat_out hk
     have hn := Nat.le_of_ble_eq_true hn
     obtain ⟨hT1, hT2⟩ := sl_size (h.cx.ty T _ ht)
     obtain ⟨hne, _⟩ := h.cx.bytes T e t ht
     obtain ⟨i, z, hi, hs, hz, hzc⟩ := hT2.inf.out
     obtain ⟨ok', ⟨h1, h2, h3⟩, h'⟩ := h.frozen (idsP (partsL st t parts.toList))
     have hzv : (zeroValue e).run P w = .ok z w := by simp [zeroValue, typeInfo, hi, hz]
     have hzl : z.cells.size = t.size := by rw [← Array.length_toList, hzc]; exact zcells_len t
     have hbase : RepL (Rep w ok' t) (List.replicate n t.zero) ((Array.range (n * t.size)).map (z.cells[· % z.cells.size]!)).toList := by
      have := made_list z.cells n (by omega)
      unfold madeCells at this
      rw [← hzl, this, hzc]
      exact RepL.replicate (Rep.zero t (show t.np = true from h.cx.np T (.sl _ t) ht)) n
     obtain ⟨cells', hfill, hrep, hlen⟩ := fillL_run h.r h1 parts.toList _ xs _ h2 hx hbase
     rw [List.length_replicate] at hlen
     refine wp_val (v := .slice (some ⟨w.heap.size, 0, none⟩) n n) (w' := w.alloc (.cells cells' e)) ?_ ?_
     · have hnn : ¬ (n * t.size > 2 ^ 24) := by omega
       by_cases h0 : n * t.size = 0
       · have hcs : (Array.range (n * t.size)).map (z.cells[· % z.cells.size]!) = (Array.range (n * t.size)).map ((#[] : Array Value)[· % (#[] : Array Value).size]!) := by rw [h0]; simp
         rw [hcs] at hfill
         simp only [execOp, ho, Instr.buildSlice, Sem.run_bind, run_underlying hT1, Result.andThen_ok, sizeOf_run hT2, if_neg hnn, Sem.run_pure, if_pos h0]
         rw [Array.toList_map, hfill]
         simp [newRow]
       · simp only [execOp, ho, Instr.buildSlice, Sem.run_bind, run_underlying hT1, Result.andThen_ok, sizeOf_run hT2, if_neg hnn, Sem.run_pure, if_neg h0, hzv]
         rw [Array.toList_map, hfill]
         simp [newRow]
     · rw [hd]
       obtain ⟨s, rfl, hr⟩ := h'.newRow d e t xs cells' hrep (by
        rw [hlen]; simp [maxLen]
        have : n ≤ n * t.size := Nat.le_mul_of_pos_right n (by omega)
        omega)
       rw [hlen] at hr
       exact ⟨_, hk, hr⟩
   · exact hk.elim
 · exact hk.elim
theorem args_rep (r : Rel w0 m ok st a w) {ok' : Nat → Prop} (h1 : ∀ b, ok b → ok' b) : ∀ (xs : List Operand) (Ts : List TypeId) (as : List AV), argsA cx st xs Ts = some as →
 (∀ d, d ∈ as.flatMap AV.ids → ∀ o, fnd d st.hp = some o → ∀ b, blk (m d) = some b → ok' b) →
 (xs.map a.eval).length = (as.map (AV.arg st.hp)).length ∧ ∀ (i : Nat) (x : AV0), (as.map (AV.arg st.hp))[i]? = some x → ∃ v, (xs.map a.eval)[i]? = some v ∧ ∀ hp m, RepA0 w ok' m hp x v
 | [], [], as, h, _ => by simp [argsA] at h; subst h; simp
 | x :: xs, T :: Ts, as, h, hids => by
  simp only [argsA] at h
  split at h
  · rename_i l hl
    cases h
    simp only [List.flatMap_cons] at hids
    obtain ⟨e1, e2⟩ := args_rep r h1 xs Ts l hl (fun d hd => hids d (List.mem_append.2 (.inr hd)))
    refine ⟨by simp at e1 ⊢; exact e1, fun i y hy => ?_⟩
    cases i with
    | zero =>
     simp at hy
     subst hy
     refine ⟨_, rfl, fun hp m' => ?_⟩
     have hv := roV_rep (hp' := []) r h1 (fun _ _ h => by simp [fnd] at h) (fun d hd => hids d (List.mem_append.2 (.inl hd))) (r.op cx T x)
     revert hv
     cases opA cx st T x with
     | tup l => exact fun _ => trivial
     | v q =>
      show RepA0 w ok' m [] (AV0.ro st.hp q) (a.eval x) → RepA0 w ok' m' hp (AV0.arg st.hp q) (a.eval x)
      unfold AV0.arg
      cases AV0.ro st.hp q with
      | tv _ _ => exact fun h => h
      | rptr _ _ => exact fun h => h
      | fn _ => exact fun h => h
      | own _ _ _ => exact fun _ => trivial
      | un => exact fun _ => trivial
      | nilp => exact fun h => h
      | bel _ _ _ _ _ _ => exact fun _ => trivial
      | wbx _ _ _ _ _ => exact fun _ => trivial
      | clo _ _ _ => exact fun h => h
      | glb _ => exact fun h => h
      | gel _ _ => exact fun h => h
      | sub _ _ _ => exact fun _ => trivial
      | str _ _ _ => exact fun _ => trivial
      | row _ => exact fun _ => trivial
      | ptr _ _ => exact fun _ => trivial
      | elt _ _ _ => exact fun _ => trivial
    | succ i => simp at hy ⊢; simpa using e2 i y (by simpa using hy)
  · cases h
 | [], _ :: _, as, h, _ => by simp [argsA] at h
 | _ :: _, [], as, h, _ => by simp [argsA] at h
theorem cell_add {b j off : Nat} : (⟨b, off, none⟩ : Addr).add j = ⟨b, off + j, none⟩ := by
 unfold Addr.add
 split <;> simp_all
theorem deep_rep (r : Rel w0 m ok st a w) {g : Nat → Option ((t' : Ty) × t'.D)} (hg : ∀ j p v, g j = some p → RepA0 w ok m st.hp (.ptr j 0) v → RepP w (fun b => b < w.heap.size) p.1 p.2 v) {id b : Nat} {T0 : TypeId} {t0 : Ty} {x0 : t0.D} (hbx : fnd id st.hp = some (.box T0 t0 x0)) (hm : m id = .pointer (some ⟨b, 0, none⟩)) : ∀ {t : Ty} {x : t.D} {off : Nat} {cs : List Value} {p : (t' : Ty) × t'.D}, deep g st id t x off = some p → Rep w ok t x cs →
 (∀ (j : Nat) (u : Value), cs[j]? = some u → w.cell? ⟨b, off + j, none⟩ = some u) → Rep w (fun b => b < w.heap.size) p.1 p.2 cs := by
 have base : ∀ {t : Ty} {x : t.D} {cs : List Value}, Rep w ok t x cs → Rep w (fun b => b < w.heap.size) t x cs := fun h => h.move (fun _ _ => rfl) r.okb
 intro t
 induction t with
 | pair a b iha ihb =>
  intro x off cs p h hr hc
  simp only [deep] at h
  split at h
  · rename_i p1 h1
    split at h
    · rename_i q1 h2
      cases h
      obtain ⟨c1, c2, rfl, r1, r2⟩ := hr
      have hl : c1.length = a.size := r1.len
      refine ⟨c1, c2, rfl, iha h1 r1 (fun j u hu => hc j u ?_), ihb h2 r2 (fun j u hu => ?_)⟩
      · rw [List.getElem?_append_left (List.getElem?_eq_some_iff.1 hu).1]; exact hu
      · have := hc (a.size + j) u (by rw [List.getElem?_append_right (by omega), hl]; simpa using hu)
        rwa [← Nat.add_assoc] at this
    · cases h
  · cases h
 | hole k =>
  intro x off cs p h hr hc
  cases k with
  | ptr =>
   simp only [deep] at h
   split at h
   · rename_i j hj
     split at h
     · rename_i p1 hp1
       cases h
       obtain ⟨b', v, hm', hv, hrep⟩ := r.rfs id off (by rw [hj]; intro e; cases e) T0 t0 x0 hbx
       rw [hm] at hm'
       cases hm'
       obtain ⟨v', rfl, _⟩ := hr
       have := hc 0 v' rfl
       rw [Nat.add_zero, hv] at this
       cases this
       rw [hj] at hrep
       obtain ⟨ad, cs, e1, e2, e3, e4⟩ := hg j p1 v hp1 hrep
       exact ⟨ad, cs, by rw [e1], e2, e3, e4⟩
     · cases h
   · cases h
  | sl =>
   simp only [deep] at h
   split at h
   · rename_i j hj
     split at h
     · rename_i e t xs hf
       cases h
       obtain ⟨b', v, hm', hv, hrep⟩ := r.rfs id off (by rw [hj]; intro e; cases e) T0 t0 x0 hbx
       rw [hm] at hm'
       cases hm'
       obtain ⟨v', rfl, _⟩ := hr
       have := hc 0 v' rfl
       rw [Nat.add_zero, hv] at this
       cases this
       rw [hj] at hrep
       obtain rfl := hrep e t xs hf
       obtain ⟨cs, hr, hv⟩ := row_reads (r.ob j _ hf)
       have e1 : [m j] = cs := by simpa [Ty.isAgg, eq_comm] using hv
       subst e1
       exact hr.move (fun _ _ => rfl) (fun b hb => hb.elim (r.okb b) (fun hb => (r.sep j _ b hf hb).2.2))
     · cases h
   · cases h
 | int k => intro x off cs p h hr hc; cases h; exact base hr
 | bool => intro x off cs p h hr hc; cases h; exact base hr
 | str => intro x off cs p h hr hc; cases h; exact base hr
 | unit => intro x off cs p h hr hc; cases h; exact base hr
 | arr n t _ => intro x off cs p h hr hc; cases h; exact base hr
 | sl e t _ => intro x off cs p h hr hc; cases h; exact base hr
 | pt t _ => intro x off cs p h hr hc; cases h; exact base hr
 | op t _ => intro x off cs p h hr hc; cases h; exact base hr
theorem deepN_rep (r : Rel w0 m ok st a w) : ∀ (n j : Nat) (p : (t' : Ty) × t'.D) (v : Value), deepN n st j = some p → RepA0 w ok m st.hp (.ptr j 0) v → RepP w (fun b => b < w.heap.size) p.1 p.2 v
 | 0, j, p, v, h, _ => by cases h
 | n + 1, j, p, v, h, hv => by
  simp only [deepN] at h
  split at h
  · rename_i T t x hf
    obtain ⟨b, hm, rfl⟩ := hv T t x hf
    obtain ⟨b', cells, hm', hb, hr⟩ := r.ob j _ hf
    rw [hm] at hm'
    cases hm'
    refine ⟨_, cells.toList, rfl, (r.sep j _ b hf (by rw [hm]; rfl)).2.2, deep_rep r (deepN_rep r n) hf hm h hr (fun j u hu => ?_), fun j u hu => ?_⟩
    · rw [Nat.zero_add]
      simp [World.cell?, hb] at hu ⊢
      simpa using hu
    · rw [cell_add, Nat.zero_add]
      simp [World.cell?, hb] at hu ⊢
      simpa using hu
  · cases h
theorem argS_of (r : Rel w0 m ok st a w) {q : AV0} {v : Value} (h : RepA0 w ok m st.hp q v) : ∀ hp m', RepA0 w (fun b => b < w.heap.size) m' hp (q.argS st) v := by
 intro hp m'
 have old : RepA0 w (fun b => b < w.heap.size) m' hp (q.arg st.hp) v := by
  have hv := ro_rep (hp' := []) r r.okb (fun _ _ h => by simp [fnd] at h) (x := q) (v := v) (fun d _ o hf b hb => (r.sep d _ b hf hb).2.2) h
  revert hv
  unfold AV0.arg
  cases AV0.ro st.hp q with
  | tv _ _ => exact fun h => h
  | rptr _ _ => exact fun h => h
  | fn _ => exact fun h => h
  | own _ _ _ => exact fun _ => trivial
  | un => exact fun _ => trivial
  | nilp => exact fun h => h
  | bel _ _ _ _ _ _ => exact fun _ => trivial
  | wbx _ _ _ _ _ => exact fun _ => trivial
  | clo _ _ _ => exact fun h => h
  | glb _ => exact fun h => h
  | gel _ _ => exact fun h => h
  | sub _ _ _ => exact fun _ => trivial
  | str _ _ _ => exact fun _ => trivial
  | row _ => exact fun _ => trivial
  | ptr _ _ => exact fun _ => trivial
  | elt _ _ _ => exact fun _ => trivial
 unfold AV0.argS
 split
 · rename_i id
   split
   · rename_i p hp
     exact deepN_rep r 4 id p v hp h
   · trivial
 · rename_i i o n e t
   simp only [AV0.pk]
   split
   · rename_i T bt x hf
     split
     · rename_i xs hg
       obtain ⟨b, hm, hv⟩ := h _ _ _ hf
       subst hv
       exact (arr_reads (r.ob i _ hf) hm hg r.okb (r.sep i _ b hf (by rw [hm]; rfl)).2.2).1
     · trivial
   · trivial
 · exact old
theorem args_repS (r : Rel w0 m ok st a w) : ∀ (xs : List Operand) (Ts : List TypeId) (as : List AV), argsA cx st xs Ts = some as →
 (xs.map a.eval).length = (as.map (AV.argS st)).length ∧ ∀ (i : Nat) (x : AV0), (as.map (AV.argS st))[i]? = some x → ∃ v, (xs.map a.eval)[i]? = some v ∧ ∀ hp m, RepA0 w (fun b => b < w.heap.size) m hp x v
 | [], [], as, h => by simp [argsA] at h; subst h; simp
 | x :: xs, T :: Ts, as, h => by
  simp only [argsA] at h
  split at h
  · rename_i l hl
    cases h
    obtain ⟨e1, e2⟩ := args_repS r xs Ts l hl
    refine ⟨by simp at e1 ⊢; exact e1, fun i y hy => ?_⟩
    cases i with
    | zero =>
     simp at hy
     subst hy
     refine ⟨_, rfl, fun hp m' => ?_⟩
     have hv := r.op cx T x
     revert hv
     cases opA cx st T x with
     | tup l => exact fun _ => trivial
     | v q => exact fun hv => argS_of r hv hp m'
    | succ i => simp at hy ⊢; simpa using e2 i y (by simpa using hy)
  · cases h
 | [], _ :: _, as, h => by simp [argsA] at h
 | _ :: _, [], as, h => by simp [argsA] at h
theorem callFunc_run {f : FuncId} {fn : Func} (hf : P.funcs[f]? = some fn) (hname : (fn.name == "runtime.NumGoroutine") = false) (hb : fn.body.isSome = true) (args : Array Value) (w : World) : (callFunc f args).run P w = .ok (.enter f args) w := by
 have : fn.body.isNone = false := by cases h : fn.body <;> simp_all
 simp only [callFunc, Sem.run_bind, run_program, Result.andThen_ok, hf, hname, Bool.false_eq_true, if_false, this, Sem.run_pure]
theorem Here.called (h : Here P cx w0 ok0 m ok st a w) {w' : World} {okr : Nat → Prop} (hb : Below w.heap.size w w') (hr : ∀ b, okr b → ok b ∨ (w.heap.size ≤ b ∧ b < w'.heap.size)) : Here P cx w0 ok0 m (fun b => ok b ∨ okr b) st a w' :=
 ⟨h.cx, h.r.world (fun b hk => hb.block b (h.r.okb b hk)) (fun id ob b ho hb' => hb.block b (h.r.sep id ob b ho hb').2.2) hb.size (h.r.keep.below hb) (fun _ h => .inl h)
  (fun b hk => hk.elim (fun hk => Nat.lt_of_lt_of_le (h.r.okb b hk) hb.size) (fun hk => (hr b hk).elim (fun hk => Nat.lt_of_lt_of_le (h.r.okb b hk) hb.size) (fun hk => hk.2)))
  (fun id ob b ho hb' hk => hk.elim (h.r.sep id ob b ho hb').1 (fun hk => (hr b hk).elim (h.r.sep id ob b ho hb').1 (fun hk => by have := (h.r.sep id ob b ho hb').2.2; omega)))
  (fun D _ c n => ⟨fun hk => hk.elim n (fun hk => (hr D hk).elim n (fun hk => by have := (Array.getElem?_eq_some_iff.1 c).1; omega)), hb.block D (Array.getElem?_eq_some_iff.1 c).1⟩),
  fun b hk => hk.elim (h.f b) (fun hk => (hr b hk).elim (h.f b) (fun hk => .inr (h.r.keep.old hk.1)))⟩
theorem putRes_one {d : Option Tmp} {x : AV0} (hx : ∀ e t xs, x ≠ .own e t xs) : putRes st d [x] = st.put d (.v x) := by
 cases x <;> first | rfl | exact (hx _ _ _ rfl).elim
theorem putRes_many {d : Option Tmp} {x y : AV0} {r : List AV0} (hx : ∀ e t xs, x ≠ .own e t xs) : putRes st d (x :: y :: r) = st.put d (.tup (x :: y :: r)) := by
 cases x <;> first | rfl | exact (hx _ _ _ rfl).elim
theorem putRes_rel (h : Here P cx w0 ok0 m ok st a w) (d : Option Tmp) (res : List AV0) (us : List Value) (v : Value) (hl : us.length = res.length) (hv : v = tupV us)
 (hr : ∀ (i : Nat) (x : AV0), res[i]? = some x → ∃ u, us[i]? = some u ∧ ∀ hp m, RepA0 w ok m hp x u)
 (ho : ∀ (i : Nat) (e : TypeId) (t : Ty) (xs : List t.D) (u : Value), res[i]? = some (.own e t xs) → us[i]? = some u → ∃ inner, w.ownsRow 0 e t.size u xs.length inner ∧ RepL (Rep w ok t) xs inner ∧ ∀ b, blk u = some b → ¬ ok b ∧ w0.fr b ∧ ∀ id o', fnd id st.hp = some o' → blk (m id) ≠ some b) :
 RelE w0 ok0 (putRes st d res) (a.put d v) w := by
 have hlt : ∀ {e : TypeId} {s n : Nat} {u : Value} {inner : List Value}, w.ownsRow 0 e s u n inner → ∀ b, blk u = some b → b < w.heap.size := by
  intro e s n u inner hw b hb
  rcases hw.2 with ⟨rfl, _⟩ | ⟨g, cap, cur, rfl, _, hgg, _⟩
  · simp [blk] at hb
  · simp [blk] at hb; subst hb; exact (Array.getElem?_eq_some_iff.1 hgg).1
 subst hv
 match res, us, hl with
 | [], [], _ => exact ⟨m, ok, h.r.put (x := .tup []) ⟨[], rfl, rfl, fun i x hx => by simp at hx⟩ d, h.f⟩
 | x :: r, u :: us, hl =>
  by_cases hx : ∃ e t xs, x = .own e t xs
  · obtain ⟨e, t, xs, rfl⟩ := hx
    obtain ⟨inner, h1, h2, h3⟩ := ho 0 e t xs u rfl rfl
    cases d with
    | none => exact ⟨m, ok, h.r.put (x := .v .un) trivial none, h.f⟩
    | some d =>
     match r, us, hl with
     | [], [], _ =>
      refine ⟨_, ok, h.r.mk_ d (.row e t xs) (.row d) u u ⟨inner, h1, h2⟩ ?_ (fun b hb => ⟨(h3 b hb).1, (h3 b hb).2.1, hlt h1 b hb⟩) (fun b id o' _ hf hb => (h3 b hb).2.2 id o' hf), h.f⟩
      intro e' t' xs' hf; simp
     | y :: r, u' :: us, hl =>
      refine ⟨_, ok, h.r.mkT_ d (.row e t xs) (.row d :: y :: r) u _ ⟨inner, h1, h2⟩ ?_ (fun b hb => ⟨(h3 b hb).1, (h3 b hb).2.1, hlt h1 b hb⟩) (fun b id o' _ hf hb => (h3 b hb).2.2 id o' hf), h.f⟩
      refine ⟨u :: u' :: us, rfl, by simpa using hl, fun i x hx => ?_⟩
      cases i with
      | zero => simp at hx; subst hx; exact ⟨u, rfl, fun e' t' xs' hf => by simp⟩
      | succ i =>
       obtain ⟨u2, hu2, hx2⟩ := hr (i + 1) x (by simpa using hx)
       exact ⟨u2, hu2, hx2 _ _⟩
  · have hx : ∀ e t xs, x ≠ .own e t xs := fun e t xs h => hx ⟨e, t, xs, h⟩
    match r, us, hl with
    | [], [], _ =>
     rw [putRes_one hx]
     obtain ⟨u', hu, hx⟩ := hr 0 x rfl
     simp at hu; subst hu
     exact ⟨m, ok, h.r.put (x := .v x) (hx _ _) d, h.f⟩
    | y :: r, u' :: us, hl =>
     rw [putRes_many hx]
     exact ⟨m, ok, h.r.put (x := .tup (x :: y :: r)) ⟨u :: u' :: us, rfl, hl, fun i x hx => let ⟨u, hu, h⟩ := hr i x hx; ⟨u, hu, h _ _⟩⟩ d, h.f⟩
def RepAs (w : World) (ok : Nat → Prop) (m : Nat → Value) (hp : List (Nat × Ob)) : List AV → List Value → Prop
 | [], [] => True
 | x :: xs, v :: vs => RepA w ok m hp x v ∧ RepAs w ok m hp xs vs
 | _, _ => False
theorem args_all (r : Rel w0 m ok st a w) : ∀ {xs : List Operand} {Ts : List TypeId} {as : List AV}, argsA cx st xs Ts = some as → RepAs w ok m st.hp as (xs.map a.eval)
 | [], [], as, h => by simp [argsA] at h; subst h; trivial
 | x :: xs, T :: Ts, as, h => by
  simp only [argsA] at h
  split at h
  · rename_i l hl
    cases h
    exact ⟨r.op cx T x, args_all r hl⟩
  · cases h
 | [], _ :: _, as, h => by simp [argsA] at h
 | _ :: _, [], as, h => by simp [argsA] at h
theorem ownsRow_slice {w : World} {base : Nat} {e : TypeId} {size : Nat} {v : Value} {n : Nat} {xs : List Value} (h : w.ownsRow base e size v n xs) : ∃ A n c, v = .slice A n c := by
 rcases h.2 with ⟨e, _⟩ | ⟨g, cap, cur, e, _⟩ <;> exact ⟨_, _, _, e⟩
theorem RepL.take {α : Type} {R : α → List Value → Prop} {s : Nat} (h : ∀ x c, R x c → c.length = s) {xs : List α} {cs : List Value} (k : RepL R xs cs) (i : Nat) : RepL R (xs.take i) (cs.take (i * s)) ∧ RepL R (xs.drop i) (cs.drop (i * s)) := by
 rw [← List.take_append_drop i xs] at k
 obtain ⟨c, d, rfl, k1, k2⟩ := RepL.split k
 have hl := RepL.len h k1
 by_cases hi : i ≤ xs.length
 · rw [List.length_take, Nat.min_eq_left hi] at hl
   rw [← hl]
   simpa using ⟨k1, k2⟩
 · have e1 : xs.drop i = [] := List.drop_eq_nil_of_le (by omega)
   have e2 : xs.take i = xs := List.take_of_length_le (by omega)
   rw [e1] at k2 ⊢
   rw [e2] at k1 hl ⊢
   have : d = [] := k2
   subst this
   have hle : (c ++ []).length ≤ i * s := by
    rw [List.append_nil, hl]; exact Nat.mul_le_mul_right _ (by omega)
   rw [List.take_of_length_le hle, List.drop_eq_nil_of_le hle]
   exact ⟨by simpa using k1, rfl⟩
theorem op_rowf (h : Here P cx w0 ok0 m ok st a w) {f : FuncId} {k : RowF} {e : TypeId} {d : Nat} {Ts : List TypeId} {as : List AV} {vals : List Value} (hR : RowOK P f k e) (hd : o.dst = some d)
 (hrun : ∀ fn, P.funcs[f]? = some fn → (fn.name == "runtime.NumGoroutine") = false → fn.body.isSome = true → (execOp a.eval o).run P w = .ok (.enter f vals.toArray) w)
 (has : RepAs w ok m st.hp as vals) (hk : rowA cx st k e d Ts as K) : o.wp P a w (Nxt w0 ok0 K) Q := by
 obtain ⟨⟨fn, f1, f2, f3⟩, hR⟩ := hR
 unfold Oper.wp
 rw [hrun fn f1 f2 f3, Oper.upon_enter, hd]
 unfold rowA at hk
 split at hk
 · rename_i T x
   split at hk
   · rename_i e1 t e' t' ys hT hq
     split at hk
     · rename_i ys' hcst
       obtain ⟨e1, hk1⟩ := stat_nat hk
       clear hk
       have hk := hk1
       clear hk1
       subst e1
       obtain ⟨⟨hb1, hb2⟩, hk⟩ := hk
       obtain ⟨v, rfl⟩ : ∃ v, vals = [v] := by
        match vals, has with
        | [v], _ => exact ⟨v, rfl⟩
       obtain ⟨hT1, hT2⟩ := sl_size (h.cx.ty T _ hT)
       obtain ⟨i, z, hi, hsz, hz, hzc⟩ := hT2.inf.out
       obtain ⟨hne, hbt⟩ := h.cx.bytes T e1 t hT
       have hbt := hbt i hi
       obtain ⟨hee, hys⟩ := cast?_some hcst
       cases hee
       have hys : ys' = ys := hys
       subst hys
       obtain ⟨A, cc, news, rfl, hl, hA⟩ := src_rep h.r (show RepA0 w ok m st.hp x v from has.1) hq
       have hll := RepL.len (s := t.size) (fun x c r => Rep.len r) hl
       have hc := hR i hi w A (List.length ys') cc news (by rw [hll, hsz]) (by
        rcases hA with hA | hA
        · exact .inl hA
        · exact .inr hA) (RepL.one' hl) (by simp only [maxLen]; simp; omega) (by rw [hbt]; exact hb2)
       refine hc.mono ?_
       rintro ex w' ⟨v', rfl, ho, hg, hbl⟩
       have hgo := h.grown (d := d) (e := e1) (t := t) (zs := ys') (v := .slice none 0 0) hg rfl (by rw [hsz] at ho; exact ho) hl (fun b hb => .inr (hbl b hb)) (fun b hb => by simp [blk] at hb) (fun b hb => by simp [blk] at hb)
       obtain ⟨s', rfl, hr'⟩ := hgo
       exact ⟨_, hk, hr'⟩
     · exact hk.elim
   · exact hk.elim
 · rename_i T T2 T3 id n id2
   split at hk
   · rename_i e1 t ea ta xs eb tb ys hT hf hf2
     split at hk
     · rename_i xs' y hcx hcy
       obtain ⟨e1, hk1⟩ := stat_nat hk
       clear hk
       have hk := hk1
       clear hk1
       subst e1
       cases hids : Nat.beq id id2 with
       | true => rw [hids, cond_true] at hk; exact hk.elim
       | false =>
        rw [hids, cond_false] at hk
        obtain ⟨⟨⟨hn0, hn1⟩, hb1, hb2⟩, hk⟩ := hk
        have hne2 : id ≠ id2 := by
         rintro rfl
         rw [nbeq] at hids
         simp at hids
        obtain ⟨v, nv, u, rfl⟩ : ∃ v nv u, vals = [v, nv, u] := by
         match vals, has with
         | [v, nv, u], _ => exact ⟨v, nv, u, rfl⟩
        obtain ⟨hv, hnv, hu, _⟩ := has
        have hnv : nv = .int .i64 n := RepV.int hnv
        subst hnv
        have hv : v = m id := hv _ _ _ hf
        have hu : u = m id2 := hu _ _ _ hf2
        obtain ⟨hT1, hT2⟩ := sl_size (h.cx.ty T _ hT)
        obtain ⟨i, z, hi, hsz, hz, hzc⟩ := hT2.inf.out
        obtain ⟨hne, hbt⟩ := h.cx.bytes T e1 t hT
        have hbt := hbt i hi
        obtain ⟨hee, hxs⟩ := cast?_some hcx
        cases hee
        have hxs : xs' = xs := hxs
        subst hxs
        obtain ⟨hee, hys⟩ := cast?_some hcy
        cases hee
        have hys : [y] = ys := hys
        subst hys
        obtain ⟨inner, hown, hrl⟩ := h.r.ob id _ hf
        obtain ⟨innery, howny, hrly⟩ := h.r.ob id2 _ hf2
        rw [← hv] at hown
        rw [← hu] at howny
        obtain ⟨j, rfl⟩ := Int.eq_ofNat_of_zero_le hn0
        have hj : j ≤ List.length xs' := by simpa using hn1
        have hc := hR i hi w v u (List.length xs') j inner innery (hsz ▸ hown) (hsz ▸ howny) (by
         intro b hb hb2
         rw [hv] at hb; rw [hu] at hb2
         exact hne2 (h.r.inj id id2 _ _ b hf hf2 hb hb2)) (RepL.one' hrl) (RepL.one' hrly) hj hb1 (by rw [hbt]; exact hb2)
        refine hc.mono ?_
        rintro ex w' ⟨v', rfl, ho, hg, hbl⟩
        have hlen : (insL xs' (j : Int) y).length = List.length xs' + 1 := by simp [insL]; omega
        have hgo := (show Here P cx w0 ok0 m ok { st with hp := del id st.hp } a w from ⟨h.cx, h.r.del_ id, h.f⟩).grown (d := d) (e := e1) (t := t) (zs := insL xs' (j : Int) y) (v := v) (v' := v') hg
         (blk_own (ownsRow_slice hown)) (by rw [hlen]; rw [hsz] at ho; exact ho) ?_ hbl ?_ (fun b hb => by rw [hv] at hb; exact (h.r.ob id _ hf).cells hb)
        · obtain ⟨s', rfl, hr'⟩ := hgo
          exact ⟨_, hk, hr'⟩
        · have ht := RepL.take (s := t.size) (fun x c r => Rep.len r) hrl j
          rw [hsz] at *
          have := RepL.append (RepL.append ht.1 hrly) ht.2
          simpa [insL] using this
        · intro b hb
          rw [hv] at hb
          have := h.r.sep id _ b hf hb
          refine ⟨this.1, this.2.1, this.2.2, fun id' o' hf' hb' => ?_⟩
          rw [fnd_del] at hf'
          split at hf'
          · cases hf'
          · rename_i hne; exact hne (h.r.inj id' id o' _ b hf' hf hb' hb)
     · exact hk.elim
   · exact hk.elim
 · rename_i T T2 T3 id n n'
   split at hk
   · rename_i e1 t ea ta xs hT hf
     split at hk
     · rename_i xs' hcx
       obtain ⟨e1, hk1⟩ := stat_nat hk
       clear hk
       have hk := hk1
       clear hk1
       subst e1
       obtain ⟨⟨⟨hn0, hn1⟩, hb1, hb2⟩, hk⟩ := hk
       obtain ⟨v, nv, u, rfl⟩ : ∃ v nv u, vals = [v, nv, u] := by
        match vals, has with
        | [v, nv, u], _ => exact ⟨v, nv, u, rfl⟩
       obtain ⟨hv, hnv, hu, _⟩ := has
       have hnv : nv = .int .i64 n := RepV.int hnv
       subst hnv
       have hu : u = .int .i64 n' := RepV.int hu
       subst hu
       have hv : v = m id := hv _ _ _ hf
       obtain ⟨hT1, hT2⟩ := sl_size (h.cx.ty T _ hT)
       obtain ⟨i, z, hi, hsz, hz, hzc⟩ := hT2.inf.out
       obtain ⟨hee, hxs⟩ := cast?_some hcx
       cases hee
       have hxs : xs' = xs := hxs
       subst hxs
       obtain ⟨inner, hown, hrl⟩ := h.r.ob id _ hf
       rw [← hv] at hown
       obtain ⟨j, rfl⟩ := Int.eq_ofNat_of_zero_le hn0
       have en' : n' = (j : Int) + 1 := by
        have h1 : (n' : Int) ≤ (j : Int) + 1 := hb1
        have h2 : (j : Int) + 1 ≤ (n' : Int) := hb2
        exact Int.le_antisymm h1 h2
       subst en'
       have hj : j < List.length xs' := by simpa using hn1
       have hc := hR i hi w v (List.length xs') j inner (hsz ▸ hown) (RepL.one' hrl) hj
       refine hc.mono ?_
       rintro ex w' ⟨v', rfl, ho, hg, hbl⟩
       have hlen : (delL xs' (j : Int)).length = List.length xs' - 1 := by
        have hj' := hj
        simp only [delL, List.length_append, List.length_take, List.length_drop]
        have : (j : Int).toNat = j := rfl
        rw [this]; omega
       have hgo := (show Here P cx w0 ok0 m ok { st with hp := del id st.hp } a w from ⟨h.cx, h.r.del_ id, h.f⟩).grown (d := d) (e := e1) (t := t) (zs := delL xs' (j : Int)) (v := v) (v' := v') hg
        (blk_own (ownsRow_slice hown)) (by rw [hlen]; rw [hsz] at ho; exact ho) ?_ hbl ?_ (fun b hb => by rw [hv] at hb; exact (h.r.ob id _ hf).cells hb)
       · obtain ⟨s', rfl, hr'⟩ := hgo
         exact ⟨_, hk, hr'⟩
       · have h1 := RepL.take (s := t.size) (fun x c r => Rep.len r) hrl j
         have h2 := RepL.take (s := t.size) (fun x c r => Rep.len r) hrl (j + 1)
         rw [hsz] at *
         have := RepL.append h1.1 h2.2
         simpa [delL] using this
       · intro b hb
         rw [hv] at hb
         have := h.r.sep id _ b hf hb
         refine ⟨this.1, this.2.1, this.2.2, fun id' o' hf' hb' => ?_⟩
         rw [fnd_del] at hf'
         split at hf'
         · cases hf'
         · rename_i hne; exact hne (h.r.inj id' id o' _ b hf' hf hb' hb)
     · exact hk.elim
   · exact hk.elim
 · exact hk.elim
theorem roW_rep (r : Rel w0 m ok st a w) {ok' : Nat → Prop} {hp' : List (Nat × Ob)} (h1 : ∀ b, ok b → ok' b) (h3 : ∀ id o, fnd id hp' = some o → fnd id st.hp = some o) {x : AV} {v : Value}
 (h2 : ∀ d, d ∈ x.idsW → ∀ o, fnd d st.hp = some o → ∀ b, blk (m d) = some b → ok' b) (h : RepA w ok m st.hp x v) : RepA0 w ok' m hp' (x.roW st.hp) v := by
 cases x with
 | tup l => exact True.intro
 | v q =>
  have other : ∀ q : AV0, AV.idsW (.v q) = AV.ids (.v q) → q.pk st.hp = q.ro st.hp → (∀ d, d ∈ AV.idsW (.v q) → ∀ o, fnd d st.hp = some o → ∀ b, blk (m d) = some b → ok' b) → RepA0 w ok m st.hp q v → RepA0 w ok' m hp' (AV.roW st.hp (.v q)) v := by
   intro q e1 e2 k1 k2
   rw [e1] at k1
   show RepA0 w ok' m hp' (q.pk st.hp) v
   rw [e2]
   exact roV_rep (x := .v q) r h1 h3 k1 k2
  cases q with
  | wbx id off n e t =>
   simp only [AV.roW, AV0.pk]
   split
   · rename_i T bt x hf
     split
     · rename_i xs hg
       obtain ⟨b, hm, hv⟩ := h _ _ _ hf
       subst hv
       exact (arr_reads (r.ob id _ hf) hm hg h1 (h2 id (by simp [AV.idsW]) _ hf b (by rw [hm]; rfl))).1
     · exact True.intro
   · exact True.intro
  | _ => exact other _ rfl rfl h2 h
theorem args_roK (r : Rel w0 m ok st a w) {env : List (Nat × SkV)} {ok' : Nat → Prop} {hp' : List (Nat × Ob)} (h1 : ∀ b, ok b → ok' b) (h3 : ∀ id o, fnd id hp' = some o → fnd id st.hp = some o) : ∀ (xs : List Operand) (Ts : List TypeId) (as : List AV) (k : Nat), argsA cx st xs Ts = some as →
 (∀ d, d ∈ idsK env k as → ∀ o, fnd d st.hp = some o → ∀ b, blk (m d) = some b → ok' b) →
 (xs.map a.eval).length = (roK env st.hp k as).length ∧ ∀ (i : Nat) (x : AV0), (roK env st.hp k as)[i]? = some x → ∃ v, (xs.map a.eval)[i]? = some v ∧ RepA0 w ok' m hp' x v
 | [], [], as, k, h, _ => by simp [argsA] at h; subst h; simp [roK]
 | x :: xs, T :: Ts, as, k, h, hids => by
  simp only [argsA] at h
  split at h
  · rename_i l hl
    cases h
    simp only [idsK] at hids
    obtain ⟨e1, e2⟩ := args_roK r h1 h3 xs Ts l (k + 1) hl (fun d hd => hids d (List.mem_append.2 (.inr hd)))
    simp only [roK]
    refine ⟨by simp at e1 ⊢; exact e1, fun i y hy => ?_⟩
    cases i with
    | zero =>
     simp only [List.getElem?_cons_zero, Option.some.injEq] at hy
     subst hy
     refine ⟨_, rfl, ?_⟩
     cases hr : rowP k env with
     | false =>
      rw [cond_false]
      rw [hr, cond_false] at hids
      exact roW_rep (hp' := hp') r h1 h3 (fun d hd => hids d (List.mem_append.2 (.inl hd))) (r.op cx T x)
     | true =>
      rw [cond_true]
      have hv := r.op cx T x
      revert hv
      generalize opA cx st T x = q
      intro hv
      split
      · exact fun e t ys hf => hv e t ys (h3 _ _ hf)
      · trivial
    | succ i => simp only [List.getElem?_cons_succ] at hy; simpa using e2 i y hy
  · cases h
 | [], _ :: _, as, k, h, _ => by simp [argsA] at h
 | _ :: _, [], as, k, h, _ => by simp [argsA] at h
theorem op_scall (h : Here P cx w0 ok0 m ok st a w) {c : Call} {f : FuncId} {S : SFn} {as : List AV} (hS : SOK P f S)
 (hrun : ∀ fn, P.funcs[f]? = some fn → (fn.name == "runtime.NumGoroutine") = false → fn.body.isSome = true → (execOp a.eval o).run P w = .ok (.enter f (c.args.toList.map a.eval).toArray) w)
 (has : argsA cx st c.args.toList c.argTypes.toList = some as) (hk : scallA cx st o.dst S as K) : o.wp P a w (Nxt w0 ok0 K) Q := by
 unfold scallA at hk
 obtain ⟨ok', ⟨h1, h2, h3⟩, h'⟩ := h.frozen (idsK S.inn.env 0 as)
 obtain ⟨e1, e2⟩ := args_roK (cx := cx) (env := S.inn.env) (hp' := (freezes st (idsK S.inn.env 0 as)).hp) h.r h1 h3 _ _ as 0 has h2
 generalize freezes st (idsK S.inn.env 0 as) = st1 at *
 generalize roK S.inn.env st.hp 0 as = l at *
 unfold scallB at hk
 split at hk
 · rename_i ρ hρ
   clear hρ
   obtain ⟨hok, hk⟩ := stat_out hk
   simp only [okI, Bool.and_eq_true, List.all_eq_true] at hok
   obtain ⟨g1, g2, g3, g4, g5, g8⟩ := hok
   have hfz : S.inn.fz = [] := List.isEmpty_iff.1 g1
   have hkρ := distinctL_nodup g2
   have hvρ := distinctL_nodup g3
   unfold Sk.as at hk
   split at hk
   · rename_i x hx
     have gl : GloW w (entX S.inn (subM m ρ)) := h.r.keep.gloW fun b hb => by
      obtain ⟨c, hc, hbl⟩ := hb
      obtain ⟨p, hp, rfl⟩ := List.mem_map.1 (inL_mem.1 hc)
      obtain ⟨q, hq, e⟩ := List.mem_map.1 (inL_mem.1 (g4 p hp).2)
      have hs : subM m ρ p.1 = m q.2 := by unfold subM; rw [lkN_of hkρ (show (p.1, q.2) ∈ ρ by rw [← e]; exact hq)]
      rw [hs] at hbl
      have hob0 : ∃ o', fnd q.2 st1.hp = some o' := by
       have hlk : ∃ q', lkO p.1 S.inn.hp = some q' := by
        have : ∀ l : List (Nat × SkO), p ∈ l → ∃ q, lkO p.1 l = some q := by
         intro l
         induction l with
         | nil => intro h; simp at h
         | cons p' l ih =>
          intro h
          simp only [lkO, nbeq]
          by_cases e' : p'.1 = p.1
          · exact ⟨p'.2, by simp [e']⟩
          · rcases List.mem_cons.1 h with rfl | h
            · exact (e' rfl).elim
            · obtain ⟨q, hq⟩ := ih h
              exact ⟨q, by simp [e', hq]⟩
        exact this _ hp
       obtain ⟨q', hq'⟩ := hlk
       obtain ⟨z, hz⟩ := Sk.rd_has hfz hx p.1 q' hq'
       obtain ⟨id', h1', h2'⟩ := fnd_hpS hz
       have := lkN_of hkρ (show (p.1, q.2) ∈ ρ by rw [← e]; exact hq)
       rw [lkN_of hkρ h1'] at this
       obtain rfl := Option.some.inj this
       exact ⟨_, h2'⟩
      obtain ⟨o', ho'⟩ := hob0
      exact (h'.r.sep q.2 o' b ho' hbl).2.1
     have hr := h'.r.subS (S := S.inn) (ρ := ρ) (l := l) (vals := c.args.toList.map a.eval) hkρ hvρ (fun p hp => inL_mem.1 (g5 p hp)) (fun p hp => by
      have := (g4 p hp).1
      rwa [Nat.ble_eq] at this) e1 e2 gl
     have hr2 := Weak.rel hr (Sk.rd_weak hfz hx)
     obtain ⟨fn, f1, f2, f3⟩ := hS.fn
     unfold Oper.wp
     rw [hrun fn f1 f2 f3, Oper.upon_enter]
     refine (hS.ok x _ hk w _ ok' _ gl hr2).mono ?_
     rintro e w' ⟨i, y, us, hj, rfl, hl, m2, ok2, r2, f2'⟩
     obtain ⟨hok2, hj⟩ := stat_out hj
     generalize newP (cx.sp (o.dst.getD 0)) ρ (S.out i).hp = nw at *
     simp only [okS, Bool.and_eq_true, List.all_eq_true] at hok2
     obtain ⟨q1, q2, g6, g7, g9⟩ := hok2
     have hk1 := distinctL_nodup q1
     have hv1 := distinctL_nodup q2
     have hob : ∀ c id, (c, id) ∈ ρ → ∃ q z, lkO c S.inn.hp = some q ∧ fnd id st1.hp = some (q.mk z) := by
      intro c id hc
      obtain ⟨p, hp, e⟩ := List.mem_map.1 (inL_mem.1 (g5 _ hc))
      obtain ⟨q, hq⟩ : ∃ q, lkO c S.inn.hp = some q := by
       have : ∀ l : List (Nat × SkO), c ∈ l.map (·.1) → ∃ q, lkO c l = some q := by
        intro l
        induction l with
        | nil => intro h; simp at h
        | cons p l ih =>
         intro h
         simp only [lkO, nbeq]
         by_cases e : p.1 = c
         · exact ⟨p.2, by simp [e]⟩
         · simp only [List.map_cons, List.mem_cons] at h
           obtain ⟨q, hq⟩ := ih (h.resolve_left fun h => e h.symm)
           exact ⟨q, by simp [e, hq]⟩
       exact this _ (inL_mem.1 (g5 _ hc))
      obtain ⟨z, hz⟩ := Sk.rd_has hfz hx c q hq
      obtain ⟨id', h1', h2'⟩ := fnd_hpS hz
      have := lkN_of hkρ hc
      rw [lkN_of hkρ h1'] at this
      obtain rfl := Option.some.inj this
      exact ⟨q, z, hq, h2'⟩
     obtain ⟨m3, ok3, r3, f3', _, _⟩ := h'.r.back (S := S.io i) (ρ := ρ) (nw := nw) (d := o.dst) (us := us) (y := y) hk1 hv1
      (fun p hp => by
       obtain ⟨q, hq, e⟩ := List.mem_map.1 (inL_mem.1 (g4 p hp).2)
       exact ⟨q.2, by rw [← e]; exact hq⟩)
      hob
      (fun p hp => by
       have := g6 p hp
       rw [nblt, decide_eq_true_eq, Bool.not_eq_true'] at this
       exact ⟨this.1, fun hm => by rw [inL_mem.2 hm] at this; cases this.2⟩)
      (fun p hp => ⟨inL_mem.1 (g7 p hp).1, (g7 p hp).2⟩) (fun p hp => by
       have := g9 p hp
       simp only [Bool.or_eq_true, nblt, decide_eq_true_eq] at this
       exact this) r2 f2' hl
     exact ⟨_, hj, m3, ok3, r3, fun b hb => (f3' b hb).elim (h'.f b) .inr⟩
   · exact hk.elim
 · exact hk.elim
theorem callA_run (h : Here P cx w0 ok0 m ok st a w) {f : FuncId} {vals : List Value} {as : List AV} (hrun : ∀ fn, P.funcs[f]? = some fn → (fn.name == "runtime.NumGoroutine") = false → fn.body.isSome = true → (execOp a.eval o).run P w = .ok (.enter f vals.toArray) w)
 (hF : ∀ ok' : Nat → Prop, (∀ b, ok b → ok' b) → (∀ d, d ∈ as.flatMap AV.ids → ∀ o, fnd d st.hp = some o → ∀ b, blk (m d) = some b → ok' b) → vals.length = (as.map (AV.arg st.hp)).length ∧ ∀ (i : Nat) (x : AV0), (as.map (AV.arg st.hp))[i]? = some x → ∃ v, vals[i]? = some v ∧ ∀ hp m, RepA0 w ok' m hp x v)
 (hB : vals.length = (as.map (AV.argS st)).length ∧ ∀ (i : Nat) (x : AV0), (as.map (AV.argS st))[i]? = some x → ∃ v, vals[i]? = some v ∧ ∀ hp m, RepA0 w (fun b => b < w.heap.size) m hp x v)
 (hk : callA cx st f as fun st res => K (putRes st o.dst res)) : o.wp P a w (Nxt w0 ok0 K) Q := by
 have go : ∀ {J : List AV0 → Prop} {ok1 : Nat → Prop} {args : List AV0}, cx.call f args J → (∀ b, ok1 b → b < w.heap.size) → (∀ (i : Nat) (x : AV0), args[i]? = some x → ∃ v, vals[i]? = some v ∧ ∀ hp m, RepA0 w ok1 m hp x v) → vals.length = args.length →
  (∀ (res : List AV0) (us : List Value) (v : Value) (okr : Nat → Prop) (w' : World), J res → Below w.heap.size w w' → us.length = res.length → v = tupV us → (∀ b, okr b → ok1 b ∨ (w.heap.size ≤ b ∧ b < w'.heap.size)) →
   (∀ (i : Nat) (x : AV0), res[i]? = some x → ∃ u, us[i]? = some u ∧ ∀ hp m, RepA0 w' okr m hp x u) →
   (∀ (i : Nat) (e : TypeId) (t : Ty) (xs : List t.D) (u : Value), res[i]? = some (.own e t xs) → us[i]? = some u → ∃ inner, w'.ownsRow 0 e t.size u xs.length inner ∧ RepL (Rep w' okr t) xs inner ∧ ∀ b, blk u = some b → ¬ okr b ∧ w.heap.size ≤ b) →
   Nxt w0 ok0 K (a.put o.dst v) w') → o.wp P a w (Nxt w0 ok0 K) Q := by
  intro J ok1 args hJ hok1 hargs hlen hnext
  obtain ⟨fn, h1, h2, h3⟩ := h.cx.fns f _ _ hJ
  unfold Oper.wp
  rw [hrun fn h1 h2 h3, Oper.upon_enter]
  refine (h.cx.fnok f _ _ hJ w ok1 vals (h.r.keep.gloW fun _ h => h.elim) hok1 hlen hargs).mono ?_
  rintro e w' ⟨res, us, v, okr, hj, rfl, hb, hl, hv, hko, hr, ho⟩
  exact hnext res us v okr w' hj hb hl hv hko hr ho
 unfold callA at hk
 cases hbor : cx.bor f with
 | false =>
  rw [hbor, cond_false] at hk
  obtain ⟨ok', ⟨h1, h2, h3⟩, h'⟩ := h.frozen (as.flatMap AV.ids)
  obtain ⟨e1, e2⟩ := hF ok' h1 h2
  refine go hk h'.r.okb e2 e1 ?_
  intro res us v okr w' hj hb hl hv hko hr ho
  refine ⟨_, hj, ?_⟩
  refine putRes_rel (h'.called hb hko) o.dst res us v hl hv (fun i x hx => let ⟨u, hu, hr⟩ := hr i x hx; ⟨u, hu, fun hp m => RepA0.ok_ (fun b hb => .inr hb) (hr hp m)⟩) (fun i e t xs u hx hu => ?_)
  obtain ⟨inner, i1, i2, i3⟩ := ho i e t xs u hx hu
  refine ⟨inner, i1, RepL.imp (fun x c r => r.move (fun _ _ => rfl) (fun b hb => .inr hb)) i2, fun b hb => ⟨fun hk => hk.elim (fun hk => ?_) (i3 b hb).1, h.r.keep.old (i3 b hb).2, fun id o' hf hb' => ?_⟩⟩
  · have := h'.r.okb b hk; have := (i3 b hb).2; omega
  · have := (h'.r.sep id o' b hf hb').2.2; have := (i3 b hb).2; omega
 | true =>
  rw [hbor, cond_true] at hk
  obtain ⟨e1, e2⟩ := hB
  refine go (ok1 := fun b => b < w.heap.size) hk (fun _ h => h) e2 e1 ?_
  rintro res us v okr w' hres hb hl hv hko hr ho
  obtain ⟨hflat, hj⟩ := flatsO_out hres
  refine ⟨_, hj, ?_⟩
  refine putRes_rel (h.called (okr := fun _ => False) hb (fun _ h => h.elim)) o.dst res us v hl hv (fun i x hx => ?_) (fun i e t xs u hx hu => ?_)
  · obtain ⟨u, hu, hr⟩ := hr i x hx
    rcases hflat x (List.mem_of_getElem? hx) with ⟨t, z, rfl, hfl⟩ | ⟨e, t, xs, rfl, hfl⟩ | ⟨e, t, rfl⟩
    · exact ⟨u, hu, fun hp m => RepV.flat hfl (hr [] m)⟩
    · exact ⟨u, hu, fun _ _ => trivial⟩
    · refine ⟨u, hu, fun hp m => ?_⟩
      obtain ⟨A, c, inner, rfl, h1, _, h3⟩ := RepV.sl (show RepV w' okr (.sl e t) [] u from hr [] m)
      exact RepV.of_sl (inner := []) h1 (.inl rfl) rfl
  · rcases hflat _ (List.mem_of_getElem? hx) with ⟨t', z, e', hfl⟩ | ⟨e', t', xs', e1, hfl⟩ | ⟨e', t', e1⟩
    · cases e'
    · cases e1
      obtain ⟨inner, i1, i2, i3⟩ := ho i e t xs u hx hu
      refine ⟨inner, i1, RepL.imp (fun x c r => r.flat_move hfl) i2, fun b hb => ⟨fun hk => hk.elim (fun hk => ?_) id, h.r.keep.old (i3 b hb).2, fun id o' hf hb' => ?_⟩⟩
      · have := h.r.okb b hk; have := (i3 b hb).2; omega
      · have := (h.r.sep id o' b hf hb').2.2; have := (i3 b hb).2; omega
    · cases e1
theorem arg_snoc {w : World} {ok' : Nat → Prop} {vals : List Value} {l : List AV0} {t : Ty} {y : t.D} {u : Value} (h : vals.length = l.length ∧ ∀ (i : Nat) (x : AV0), l[i]? = some x → ∃ v, vals[i]? = some v ∧ ∀ hp m, RepA0 w ok' m hp x v) (hu : RepP w ok' t y u) :
 (vals ++ [u]).length = (l ++ [AV0.rptr t y]).length ∧ ∀ (i : Nat) (x : AV0), (l ++ [AV0.rptr t y])[i]? = some x → ∃ v, (vals ++ [u])[i]? = some v ∧ ∀ hp m, RepA0 w ok' m hp x v := by
 refine ⟨by simp [h.1], fun i x hx => ?_⟩
 rcases Nat.lt_or_ge i l.length with h1 | h1
 · rw [List.getElem?_append_left h1] at hx
   rw [List.getElem?_append_left (by omega)]
   exact h.2 i x hx
 · rw [List.getElem?_append_right h1] at hx
   rw [List.getElem?_append_right (by omega), h.1]
   cases hi : i - l.length with
   | zero => rw [hi] at hx; simp at hx; subst hx; exact ⟨u, rfl, fun hp m => hu⟩
   | succ n => rw [hi] at hx; simp at hx
theorem op_call (h : Here P cx w0 ok0 m ok st a w) {c : Call} {fv : Operand} (ho : o.op = .call c) (hc : c.callee = .value fv) (hk : aop cx o K st) : o.wp P a w (Nxt w0 ok0 K) Q := by
 unfold aop at hk
 rw [ho] at hk
 simp only [hc] at hk
 split at hk
 · rename_i f hfv
   have hf := h.r.op cx 0 fv
   rw [hfv] at hf
   have hf : a.eval fv = .func (.func f) #[] #[] := hf
   split at hk
   · rename_i as has
     have hrun : ∀ fn, P.funcs[f]? = some fn → (fn.name == "runtime.NumGoroutine") = false → fn.body.isSome = true → (execOp a.eval o).run P w = .ok (.enter f (c.args.toList.map a.eval).toArray) w := by
      intro fn h1 h2 h3
      have := callFunc_run h1 h2 h3 (c.args.map a.eval) w
      have e : c.args.map a.eval = (c.args.toList.map a.eval).toArray := by apply Array.ext'; simp
      simp only [execOp, ho, resolve, hc, hf, Deferred.ofValue, Sem.run_bind, Sem.run_pure, Result.andThen_ok, invoke, Array.empty_append, Array.append_empty, this]
      rw [e]
     split at hk
     · rename_i S hS
       exact op_scall h (h.cx.sfn f S (scOf_some hS).2) hrun has hk
     split at hk
     rotate_left
     · rename_i k e d hrf hd
       exact op_rowf h (h.cx.rowf f k e hrf) hd hrun (args_all h.r has) hk
     · exact hk.elim
     exact callA_run h hrun (fun ok' h1 h2 => args_rep (cx := cx) h.r h1 _ _ as has h2) (args_repS (cx := cx) h.r _ _ as has) hk
   · exact hk.elim
 · rename_i f t y hfv
   have hf := h.r.op cx 0 fv
   rw [hfv] at hf
   obtain ⟨u, hf, hu⟩ : ∃ u, a.eval fv = .func (.func f) #[] #[u] ∧ RepP w ok t y u := hf
   split at hk
   · rename_i as has
     have hrun : ∀ fn, P.funcs[f]? = some fn → (fn.name == "runtime.NumGoroutine") = false → fn.body.isSome = true → (execOp a.eval o).run P w = .ok (.enter f (c.args.toList.map a.eval ++ [u]).toArray) w := by
      intro fn h1 h2 h3
      have := callFunc_run h1 h2 h3 (c.args.map a.eval ++ #[u]) w
      have e : c.args.map a.eval ++ #[u] = (c.args.toList.map a.eval ++ [u]).toArray := by apply Array.ext'; simp
      simp only [execOp, ho, resolve, hc, hf, Deferred.ofValue, Sem.run_bind, Sem.run_pure, Result.andThen_ok, invoke, Array.empty_append, this]
      rw [e]
     refine callA_run h hrun (fun ok' h1 h2 => ?_) ?_ hk
     · have := arg_snoc (args_rep (cx := cx) h.r h1 _ _ as has (fun d hd => h2 d (by simp; exact .inl (by simpa using hd)))) (hu.mono (fun _ _ => rfl) h1)
       rw [List.map_append]
       exact this
     · have := arg_snoc (args_repS (cx := cx) h.r _ _ as has) (hu.mono (fun _ _ => rfl) h.r.okb)
       rw [List.map_append]
       exact this
   · exact hk.elim
 · exact hk.elim
theorem op_makeFunc (h : Here P cx w0 ok0 m ok st a w) {fn : Fn} {first captured : Array Operand} (ho : o.op = .makeFunc fn first captured) (hk : aop cx o K st) : o.wp P a w (Nxt w0 ok0 K) Q := by
 unfold aop at hk
 rw [ho] at hk
 simp only at hk
 split at hk
 · rename_i f x hfi hca
   have e1 : first = #[] := by apply Array.ext'; simpa using hfi
   have e2 : captured = #[x] := by apply Array.ext'; simpa using hca
   subst e1 e2
   split at hk
   · rename_i id hx
     split at hk
     · rename_i T t y hf
       have hv := h.r.op cx 0 x
       rw [hx] at hv
       obtain ⟨b, hm, hv⟩ := hv _ _ _ hf
       obtain ⟨ok', ⟨g1, g2, g3⟩, r'⟩ := h.r.drop id hf
       have h' : Here P cx w0 ok0 m ok' (st.drop id) a w := ⟨h.cx, r', fun b hb => (g2 b hb).elim (h.f b) .inr⟩
       obtain ⟨b', cells, hm', hb, hr⟩ := h.r.ob id _ hf
       obtain rfl := ptr_block hm hm'
       refine h'.val (x := .v (.clo f t y)) (v := .func (.func f) #[] #[a.eval x]) ⟨_, rfl, ⟨b, 0, none⟩, cells.toList, hv, g3 _ (by rw [hm]; rfl), hr.move (fun _ _ => rfl) g1, fun j u hu => ?_⟩ ?_ hk
       · rw [cell_add, Nat.zero_add]
         simp [World.cell?, hb] at hu ⊢
         simpa using hu
       · simp [execOp, ho, Instr.makeFunc]
     · exact hk.elim
   · rename_i t y hx
     have hv := h.r.op cx 0 x
     rw [hx] at hv
     refine h.val (x := .v (.clo f t y)) (v := .func (.func f) #[] #[a.eval x]) ⟨_, rfl, hv⟩ ?_ hk
     simp [execOp, ho, Instr.makeFunc]
   · exact hk.elim
 · exact hk.elim
end
end Go.Iv
