/- Operations proved against the model, third part: memory. -/
import Derived.Test.YtcpeakceigidpaaDoorKv7
import Derived.Laws.CopyRow
set_option linter.all false
namespace Go.Iv
open Go.RowKit
variable [GL]
section
variable {P : Program} {cx : Cx} {w0 : Bas} {w : World} {ok0 ok : Nat → Prop} {m : Nat → Value} {st : St} {a : Act} {o : Oper} {K : St → Prop} {Q : Exit → Act → World → Prop}
theorem run_loadVar_rep {t : Ty} {T : TypeId} (ht : TyP P t T) {ad : Addr} {d : List Value} {x : t.D} (hr : Rep w ok t x d) (hc : ∀ (j : Nat) (u : Value), d[j]? = some u → w.cell? (ad.add j) = some u) :
 ∃ v, (loadVar T ad).run P w = .ok v w ∧ RepV w ok t x v := by
 obtain ⟨dd, hu, h1, h2⟩ := ht.agg
 obtain ⟨i, z, hi, hs, hz, hzc⟩ := ht.inf.out
 cases hag : t.isAgg with
 | true =>
  have hagg : (isAgg T).run P w = .ok true w := by
   rcases h1 hag with ⟨fs, rfl⟩ | ⟨n, e, rfl⟩ <;> simp [isAgg, underlying, hu]
  refine ⟨.agg d.toArray, ?_, ⟨d, hr, by rw [hag, if_pos rfl]⟩⟩
  have hl := run_loadCells_list (P := P) w ad d hc
  simp only [loadVar, Sem.run_bind, hagg, Result.andThen_ok, if_true, sizeOf, typeInfo, run_program, hi, Sem.run_pure, hs, ← hr.len, hl]
 | false =>
  have hagg : (isAgg T).run P w = .ok false w := by
   obtain ⟨h3, h4⟩ := h2 hag
   cases dd <;> first | (simp [isAgg, underlying, hu]; done) | (exact absurd rfl (h3 _)) | (exact absurd rfl (h4 _ _))
  have h1 : d.length = 1 := by
   rw [hr.len]; cases t <;> simp [Ty.isAgg] at hag <;> rfl
  obtain ⟨v, rfl⟩ : ∃ v, d = [v] := by
   match d, h1 with
   | [v], _ => exact ⟨v, rfl⟩
  refine ⟨v, ?_, ⟨[v], hr, by rw [hag, if_neg (by simp)]⟩⟩
  have hc0 := hc 0 v rfl
  rw [show ad.add 0 = ad from by simp [Addr.add]] at hc0
  simp only [loadVar, Sem.run_bind, hagg, Result.andThen_ok, if_false, Bool.false_eq_true, run_load, hc0]
theorem row_at {e : TypeId} {t : Ty} {xs : List t.D} {v : Value} (h : RepO w ok (.row e t xs) v) {i : Nat} (hi : i < xs.length) :
 ∃ b n c cur pre d post, v = .slice (some ⟨b, 0, none⟩) n c ∧ n = xs.length ∧ n ≤ c ∧ c ≤ maxLen ∧ w.heap[b]? = some (.cells cur e (0, 0)) ∧ cur.size = c * t.size ∧ cur.toList = pre ++ d ++ post ∧ pre.length = i * t.size ∧ d.length = t.size ∧ Rep w ok t xs[i] d := by
 obtain ⟨inner, hown, hr⟩ := h
 rcases hown.2 with ⟨_, hn⟩ | ⟨g, cap, cur, rfl, hb, hg, hle, hcap, hsz, htake⟩
 · omega
 · obtain ⟨c, d, e', h1, h2, h3, h4⟩ := RepL.get (s := t.size) (fun x c r => Rep.len r) hr hi
   refine ⟨g, _, cap, cur, c, d, e' ++ cur.toList.drop (xs.length * t.size), rfl, rfl, hle, hcap, hg, hsz, ?_, h2, h4, h3⟩
   rw [← List.append_assoc, ← h1, ← htake, List.take_append_drop]
theorem mid_get {c d e : List Value} {j : Nat} {u : Value} (hu : d[j]? = some u) : (c ++ d ++ e)[c.length + j]? = some u := by
 have hj := (List.getElem?_eq_some_iff.1 hu).1
 rw [List.getElem?_append_left (by simp; omega), List.getElem?_append_right (by omega)]
 simpa using hu
theorem mid_out {c d d' e : List Value} {j : Nat} {u : Value} (hd : d.length = d'.length) (hj : j < c.length ∨ c.length + d.length ≤ j) (hu : (c ++ d ++ e)[j]? = some u) : (c ++ d' ++ e)[j]? = some u := by
 rcases hj with h | h
 · rw [List.append_assoc, List.getElem?_append_left (by omega)] at hu ⊢; exact hu
 · rw [List.getElem?_append_right (by simp; omega)] at hu
   rw [List.getElem?_append_right (by simp; omega)]
   simp only [List.length_append] at hu ⊢
   rw [← hd]
   exact hu
theorem ptr_block {b b' : Nat} {v : Value} (h : v = .pointer (some ⟨b, 0, none⟩)) (h' : v = .pointer (some ⟨b', 0, none⟩)) : b = b' := by
 rw [h] at h'
 injection h' with h'; injection h' with h'; injection h'
theorem loadA_run (h : Here P cx w0 ok0 m ok st a w) {T : TypeId} {p : AV0} {pv : Value} {J : AV0 → Prop} (hx : RepA0 w ok m st.hp p pv) (hk : loadA cx st T p J) :
 ∃ y u ad, J y ∧ pv = .pointer (some ad) ∧ (loadVar T ad).run P w = .ok u w ∧ RepA0 w ok m st.hp y u := by
 have fin : ∀ {t' : Ty} {y : t'.D} {ad : Addr} {d : List Value}, cx.ty T = some t' → pv = .pointer (some ad) → Rep w ok t' y d → (∀ (j : Nat) (u : Value), d[j]? = some u → w.cell? (ad.add j) = some u) → J (.tv t' y) → ∃ y u ad, J y ∧ pv = .pointer (some ad) ∧ (loadVar T ad).run P w = .ok u w ∧ RepA0 w ok m st.hp y u := by
  intro t' y ad d ht e hr hc hk
  obtain ⟨v, hv, rv⟩ := run_loadVar_rep (P := P) (h.cx.ty T t' ht) hr hc
  exact ⟨.tv t' y, v, ad, hk, e, hv, rv⟩
 have ref : ∀ {id off : Nat} {T0 : TypeId} {t : Ty} {z : t.D}, fnd id st.hp = some (.box T0 t z) → RepA0 w ok m st.hp (.ptr id off) pv → (isAgg T).run P w = .ok false w → refA st id off J → ∃ y u ad, J y ∧ pv = .pointer (some ad) ∧ (loadVar T ad).run P w = .ok u w ∧ RepA0 w ok m st.hp y u := by
  intro id off T0 t z hf hx hagg hk
  obtain ⟨b, hm, e⟩ := hx _ _ _ hf
  have hu : fndR id off st.rf ≠ .un := fun e => by unfold refA at hk; rw [e] at hk; exact hk
  obtain ⟨b', v, hm', hc, hr⟩ := h.r.rfs id off hu _ _ _ hf
  rw [hm] at hm'
  obtain rfl : b = b' := by injection hm' with hm'; injection hm' with hm'; injection hm'
  refine ⟨_, v, _, ?_, e, by simp only [loadVar, Sem.run_bind, hagg, Result.andThen_ok, if_false, Bool.false_eq_true, run_load, hc], hr⟩
  unfold refA at hk
  revert hk
  generalize fndR id off st.rf = q
  cases q <;> first | exact fun hk => hk | exact fun hk => hk.elim
 have opt : ∀ {t : Ty} {z : t.D} {ad : Addr} {d : List Value}, cx.ptrT T = true → pv = .pointer (some ad) → Rep w ok t z d → (∀ (j : Nat) (u : Value), d[j]? = some u → w.cell? (ad.add j) = some u) → optE t z J → ∃ y u ad, J y ∧ pv = .pointer (some ad) ∧ (loadVar T ad).run P w = .ok u w ∧ RepA0 w ok m st.hp y u := by
  intro t z ad d hpt e' hr hc hk
  obtain ⟨e, hu⟩ := h.cx.ptr T hpt
  have hagg : (isAgg T).run P w = .ok false w := by simp [isAgg, underlying, hu]
  have ld : ∀ v : Value, d = [v] → (loadVar T ad).run P w = .ok v w := fun v ed => by
   subst ed
   have := hc 0 _ rfl
   rw [show ad.add 0 = ad from rfl] at this
   simp only [loadVar, Sem.run_bind, hagg, Result.andThen_ok, if_false, Bool.false_eq_true, run_load, this]
  unfold optE at hk
  split at hk
  · rename_i t1 y
    unfold optP at hk
    split at hk
    · have hr : d = [Value.pointer none] := hr
      exact ⟨.nilp, .pointer none, ad, hk, e', ld _ hr, rfl⟩
    · rename_i z
      obtain ⟨a1, inner, ed, h1, h2, h3⟩ := hr
      exact ⟨.rptr t1 z, .pointer (some a1), ad, hk, e', ld _ ed, a1, inner, rfl, h1, h2, h3⟩
  · exact hk.elim
 revert hx
 unfold loadA at hk
 split at hk
 · rename_i t' id off ht
   intro hx
   split at hk
   · rename_i T0 t z hf
     split at hk
     · rename_i y hy
       obtain ⟨b, hm, e⟩ := hx _ _ _ hf
       obtain ⟨b', cells, hm', hb, hr⟩ := h.r.ob id _ hf
       rw [hm] at hm'
       obtain rfl : b = b' := by injection hm' with hm'; injection hm' with hm'; injection hm'
       obtain ⟨c, d, e', hcs, hl, hd⟩ := getAt_rep hy hr
       refine fin ht e hd ?_ hk
       intro j u hu
       rw [Addr.add_mid, cell_of_row w b _ cells T0 (0, 0) hb, ← Array.getElem?_toList, hcs, ← hl]
       have hj := (List.getElem?_eq_some_iff.1 hu).1
       rw [List.getElem?_append_left (by simp; omega), List.getElem?_append_right (by omega)]
       simpa using hu
     · obtain ⟨hag, hk⟩ := stat_out hk
       rw [Bool.not_eq_true'] at hag
       obtain ⟨dd, hu, h1, h2⟩ := (h.cx.ty T t' ht).agg
       refine ref hf hx ?_ hk
       obtain ⟨h3, h4⟩ := h2 hag
       cases dd <;> first | (simp [isAgg, underlying, hu]; done) | (exact absurd rfl (h3 _)) | (exact absurd rfl (h4 _ _))
   · exact hk.elim
 · rename_i id off ht
   intro hx
   split at hk
   · rename_i T0 t z hf
     obtain ⟨hpt, hk⟩ := stat_out hk
     obtain ⟨e, hu⟩ := h.cx.ptr T hpt
     exact ref hf hx (by simp [isAgg, underlying, hu]) hk
   · exact hk.elim
 · rename_i t' t z ht
   intro hx
   split at hk
   · rename_i y hy
     obtain ⟨ad, cs, e, hok, hr, hc⟩ := hx
     exact fin ht e (cast?_rep hy hr) hc hk
   · exact hk.elim
 · rename_i t' id off i f n t ht
   intro hx
   split at hk
   · rename_i T0 bt x0 hf
     split at hk
     · rename_i xs hg
       split at hk
       · rename_i y hy
         obtain ⟨hi, hk⟩ := hk
         obtain ⟨b, hm, e⟩ := hx _ _ _ hf
         obtain ⟨b', cells, hm', hb, hr⟩ := h.r.ob id _ hf
         obtain rfl := ptr_block hm hm'
         obtain ⟨c, d, e', hcs, hl, hlen, hrl⟩ := getAt_rep hg hr
         have hlen : xs.length = n := hlen
         have hin : i < xs.length := by omega
         obtain ⟨c1, d1, e1, hcs1, hl1, hr1, hd1⟩ := RepL.get (s := t.size) (fun x c r => Rep.len r) hrl hin
         rw [show ixN t.zero xs i = xs[i] from by simp [hin]] at hy
         obtain ⟨c2, d2, e2, hcs2, hl2, hd2⟩ := getAt_rep hy hr1
         refine fin ht e hd2 ?_ hk
         intro j u hu
         rw [Addr.add_mid, cell_of_row w b _ cells T0 (0, 0) hb, ← Array.getElem?_toList, hcs, hcs1, hcs2, ← hl, ← hl1, ← hl2]
         have := mid_get (c := c) (e := e') (mid_get (c := c1) (e := e1) (mid_get (c := c2) (e := e2) hu))
         rw [← this]
         congr 1
         omega
       · exact hk.elim
     · exact hk.elim
   · exact hk.elim
 · rename_i t' id i off ht
   intro hx
   split at hk
   · rename_i e0 t xs hf
     split at hk
     · rename_i y hy
       obtain ⟨hi, hk⟩ := hk
       obtain ⟨b, n, c, hm, e⟩ := hx _ _ _ hf
       obtain ⟨b', n', c', cur, pre, d, post, hm', hn, _, _, hb, hsz, hcur, hpre, hdl, hr⟩ := row_at (h.r.ob id _ hf) hi
       rw [hm] at hm'
       obtain rfl : b = b' := by injection hm' with hm' _ _; injection hm' with hm'; injection hm'
       rw [show ixN t.zero xs i = xs[i] from by simp [hi]] at hy
       obtain ⟨c1, d1, e1, hcs, hl, hd⟩ := getAt_rep hy hr
       refine fin ht e hd ?_ hk
       intro j u hu
       rw [Addr.add_mid, cell_of_row w b _ cur e0 (0, 0) hb, ← Array.getElem?_toList, hcur, hcs, ← hpre, ← hl]
       have hj := (List.getElem?_eq_some_iff.1 hu).1
       rw [List.getElem?_append_left (by simp; omega), List.getElem?_append_right (by omega), List.getElem?_append_left (by simp; omega), List.getElem?_append_right (by omega)]
       rw [show pre.length + c1.length + j - pre.length - c1.length = j by omega]
       exact hu
     · exact hk.elim
   · exact hk.elim
 · rename_i t' g i ht
   intro hx
   split at hk
   · rename_i p hp
     obtain ⟨h1, hk⟩ := stat_nat hk
     split at hk
     · rename_i y hy
       obtain ⟨hi, hk⟩ := hk
       obtain ⟨cs, hcs, hrl⟩ := h.cx.glb g p hp h1
       obtain ⟨c1, d1, e1, hcs1, hl1, hr1, hd1⟩ := RepL.get (s := p.1.size) (fun x c r => Rep.len r) (hrl w ok) hi
       rw [show ixN p.1.zero p.2 i = p.2[i] from by simp [hi]] at hy
       refine fin ht hx (cast?_rep hy hr1) ?_ hk
       intro j u hu
       have hj := (List.getElem?_eq_some_iff.1 hu).1
       have : j = 0 := by omega
       subst this
       rw [show (⟨g, i, none⟩ : Addr).add 0 = ⟨g, i, none⟩ from rfl]
       refine h.r.keep.glo hcs ?_
       rw [hcs1]
       have := mid_get (c := c1) (e := e1) hu
       rw [hl1, h1] at this
       simpa using this
     · exact hk.elim
   · exact hk.elim
 · rename_i t' g ht
   intro hx
   split at hk
   · rename_i p hp
     obtain ⟨h1, hk⟩ := stat_nat hk
     obtain ⟨pt, pl⟩ := p
     cases t' with
     | arr n t =>
      have hk2 : (match cast? (.sl 0 pt) (.sl 0 t) pl with
       | some xs => List.length xs = n ∧ J (.tv (.arr n t) xs)
       | none => False) := hk
      clear hk
      split at hk2
      · rename_i xs hc
        obtain ⟨hn, hj⟩ := hk2
        obtain ⟨e, hxs⟩ := cast?_some hc
        cases e
        have hxs : xs = pl := hxs
        subst hxs
        obtain ⟨cs, hcs, hrl⟩ := h.cx.glb g _ hp h1
        refine fin ht hx (show Rep w ok (.arr n pt) xs cs from ⟨hn, hrl w ok⟩) (fun j u hu => ?_) hj
        rw [Addr.add_mid, Nat.zero_add]
        exact h.r.keep.glo hcs hu
      · exact hk2.elim
     | _ => exact hk.elim
   · exact hk.elim
 · rename_i t z ht
   intro hx
   obtain ⟨hpt, hk⟩ := stat_out hk
   obtain ⟨e, hu⟩ := h.cx.ptr T hpt
   obtain ⟨ad, cs, e', hok, hr, hc⟩ := hx
   obtain ⟨a1, inner, rfl, h1, h2, h3⟩ := hr
   refine ⟨.rptr t z, .pointer (some a1), ad, hk, e', ?_, a1, inner, rfl, h1, h2, h3⟩
   have hagg : (isAgg T).run P w = .ok false w := by simp [isAgg, underlying, hu]
   have := hc 0 _ rfl
   rw [show ad.add 0 = ad from rfl] at this
   simp only [loadVar, Sem.run_bind, hagg, Result.andThen_ok, if_false, Bool.false_eq_true, run_load, this]
 · rename_i t z ht
   intro hx
   obtain ⟨hpt, hk⟩ := stat_out hk
   obtain ⟨ad, cs, e', hok, hr, hc⟩ := hx
   exact opt hpt e' hr hc hk
 · rename_i id off i f n t ht
   intro hx
   split at hk
   · rename_i T0 bt x0 hf
     split at hk
     · rename_i xs hg
       obtain ⟨hi, hk⟩ := hk
       obtain ⟨hpf, hk⟩ := stat_out hk
       simp only [Bool.and_eq_true] at hpf
       have hf0 := Nat.eq_of_beq_eq_true hpf.2
       obtain ⟨b, hm, e⟩ := hx _ _ _ hf
       obtain ⟨b', cells, hm', hb, hr⟩ := h.r.ob id _ hf
       obtain rfl := ptr_block hm hm'
       obtain ⟨c, d, e', hcs, hl, hlen, hrl⟩ := getAt_rep hg hr
       have hlen : xs.length = n := hlen
       have hin : i < xs.length := by omega
       obtain ⟨c1, d1, e1, hcs1, hl1, hr1, hd1⟩ := RepL.get (s := t.size) (fun x c r => Rep.len r) hrl hin
       rw [show ixN t.zero xs i = xs[i] from by simp [hin]] at hk
       refine opt hpf.1 e hr1 ?_ hk
       intro j u hu
       rw [Addr.add_mid, cell_of_row w b _ cells T0 (0, 0) hb, ← Array.getElem?_toList, hcs, hcs1, ← hl, ← hl1, hf0]
       have := mid_get (c := c) (e := e') (mid_get (c := c1) (e := e1) hu)
       rw [← this]
       congr 1
       omega
     · exact hk.elim
   · exact hk.elim
 · exact hk.elim
theorem op_load (h : Here P cx w0 ok0 m ok st a w) {T : TypeId} {x : Operand} (ho : o.op = .load T x) (hk : aop cx o K st) : o.wp P a w (Nxt w0 ok0 K) Q := by
 unfold aop at hk
 rw [ho] at hk
 simp only at hk
 unfold one at hk
 split at hk
 · rename_i p hp
   have hx := h.r.op cx 0 x
   rw [hp] at hx
   obtain ⟨y, u, ad, hj, e, hv, rv⟩ := loadA_run h (show RepA0 w ok m st.hp p (a.eval x) from hx) hk
   exact h.val (x := .v y) rv (by simp only [execOp, ho, e, Instr.loadAt, Instr.sureAddr, Sem.run_bind, Sem.run_pure, Result.andThen_ok, hv]) hj
 · exact hk.elim
theorem Here.setRow (h : Here P cx w0 ok0 m ok st a w) {id : Nat} {ob ob' : Ob} {b : Nat} (hf : fnd id st.hp = some ob) (hb : blk (m id) = some b) (cur cells : Array Value) (T : TypeId) (hcur : w.heap[b]? = some (.cells cur T (0, 0)))
 (hsh : (∀ e t xs, ob' = .row e t xs → ∃ xs', ob = .row e t xs') ∧ (∀ T t x, ob' = .box T t x → ∃ x', ob = .box T t x'))
 (hr : ∀ w', (∀ b, ok b → w'.heap[b]? = w.heap[b]?) → w'.heap[b]? = some (.cells cells T (0, 0)) → RepO w' ok ob' (m id))
 (hrf : ∀ off v, fndR id off st.rf ≠ .un → ∀ T t x, ob' = .box T t x → cur[off]? = some v → cells[off]? = some v) :
 Here P cx w0 ok0 m ok { st with hp := ins id ob' st.hp } a (w.setRow b cells) := by
 have hsep := h.r.sep id ob b hf hb
 have hok : ∀ b', ok b' → (w.setRow b cells).heap[b']? = w.heap[b']? := fun b' hb' => setRow_other w b b' cells (fun e => hsep.1 (e ▸ hb'))
 have key : ∀ {x : AV0} {v : Value}, RepA0 (w.setRow b cells) ok m st.hp x v → RepA0 (w.setRow b cells) ok m (ins id ob' st.hp) x v := by
  intro x v hx
  refine RepA0.hp (m := m) (hp := st.hp) (fun id' _ => ⟨rfl, fun o' ho' => ?_⟩) hx
  rw [fnd_ins] at ho'
  by_cases e : id' = id
  · subst e
    rw [if_pos rfl] at ho'; cases ho'
    exact ⟨ob, hf, hsh⟩
  · rw [if_neg e] at ho'
    exact ⟨o', ho', fun e t xs h => ⟨xs, h⟩, fun e t xs h => ⟨xs, h⟩⟩
 refine ⟨h.cx, ⟨h.r.defers.move fun D _ c f n => ⟨f, n, setRow_other w b D cells (h.r.noMark hf hb c)⟩, h.r.size, ?_, ?_, ?_, ?_, fun b hb => by simpa using h.r.okb b hb, ?_, fun id' v hv => ⟨(h.r.pins id' v hv).1, fun o2 ho' => ?_⟩, ?_⟩, h.f⟩
 · intro i
   have hi := (h.r.env i).mono hok (fun _ h => h)
   show RepA _ ok m (ins id ob' st.hp) (st.get i) _
   revert hi
   cases st.get i with
   | v x => exact fun hi => key hi
   | tup l => exact fun ⟨us, e, hl, hi⟩ => ⟨us, e, hl, fun i x hx => let ⟨u, hu, hr⟩ := hi i x hx; ⟨u, hu, key hr⟩⟩
 · intro id' o' ho'
   rw [fnd_ins] at ho'
   by_cases e : id' = id
   · subst e
     rw [if_pos rfl] at ho'; cases ho'
     exact hr _ hok (setRow_heap w b cur cells T (0, 0) hcur)
   · rw [if_neg e] at ho'
     have := h.r.ob id' o' ho'
     have hne : ∀ b', blk (m id') = some b' → (w.setRow b cells).heap[b']? = w.heap[b']? := fun b' hb' => setRow_other w b b' cells (fun eb => e (h.r.inj id' id o' ob b' ho' hf hb' (eb ▸ hb)))
     cases o' with
     | box T t x =>
      obtain ⟨b', cells', e1, hb', hr'⟩ := this
      exact ⟨b', cells', e1, by rw [hne b' (by rw [e1]; rfl)]; exact hb', hr'.move hok (fun _ h => h)⟩
     | row e t xs =>
      obtain ⟨inner, ho', hr'⟩ := this
      refine ⟨inner, ⟨ho'.1, ?_⟩, RepL.imp (fun x c h => h.move hok (fun _ h => h)) hr'⟩
      rcases ho'.2 with h | ⟨g, cap, cur, e1, hb', hg, rest⟩
      · exact .inl h
      · refine .inr ⟨g, cap, cur, e1, hb', ?_, rest⟩
        rw [hne g (by rw [e1]; rfl)]; exact hg
 · intro id' o' b' ho' hb'
   rw [fnd_ins] at ho'
   by_cases e : id' = id
   · subst e
     rw [hb] at hb'; cases hb'
     exact ⟨hsep.1, hsep.2.1, by simpa using hsep.2.2⟩
   · rw [if_neg e] at ho'
     have := h.r.sep id' o' b' ho' hb'
     exact ⟨this.1, this.2.1, by simpa using this.2.2⟩
 · intro i i' o1 o2 b' h1 h2 hb1 hb2
   have key : ∀ {i o1}, fnd i (ins id ob' st.hp) = some o1 → ∃ o1', fnd i st.hp = some o1' := by
    intro i o1 h1
    rw [fnd_ins] at h1
    by_cases e : i = id
    · exact ⟨ob, e ▸ hf⟩
    · rw [if_neg e] at h1; exact ⟨_, h1⟩
   obtain ⟨_, k1⟩ := key h1
   obtain ⟨_, k2⟩ := key h2
   exact h.r.inj i i' _ _ b' k1 k2 hb1 hb2
 · exact ⟨h.r.keep.os, h.r.keep.tape, h.r.keep.output, by simpa using h.r.keep.size, fun k hk hx => by rw [setRow_other w b k cells (by have := Bas.no hk hx hsep.2.1; omega)]; exact h.r.keep.block k hk hx⟩
 · rw [fnd_ins] at ho'
   by_cases e : id' = id
   · rw [if_pos e] at ho'
     exact (h.r.pins id' v hv).2 _ (e ▸ hf)
   · rw [if_neg e] at ho'; exact (h.r.pins id' v hv).2 _ ho'
 · intro id' off hu T0 t x ho'
   simp only at hu ho' ⊢
   rw [fnd_ins] at ho'
   by_cases e : id' = id
   · subst e
     rw [if_pos rfl] at ho'; cases ho'
     obtain ⟨x', rfl⟩ := hsh.2 _ _ _ rfl
     obtain ⟨b', v, hm, hc, hr'⟩ := h.r.rfs id' off hu _ _ _ hf
     rw [hm] at hb
     simp only [blk, Option.some.injEq] at hb
     subst hb
     refine ⟨b', v, hm, ?_, key (hr'.mono hok (fun _ h => h))⟩
     unfold World.cell? at hc ⊢
     rw [hcur] at hc
     rw [setRow_heap w b' cur cells T (0, 0) hcur]
     exact hrf off v hu _ _ _ rfl (by simpa using hc)
   · rw [if_neg e] at ho'
     obtain ⟨b', v, hm, hc, hr'⟩ := h.r.rfs id' off hu _ _ _ ho'
     refine ⟨b', v, hm, ?_, key (hr'.mono hok (fun _ h => h))⟩
     rw [World.cell?_of_block (w := w) (setRow_other w b b' cells (fun eb => e (h.r.inj id' id _ ob b' ho' hf (by rw [hm]; rfl) (eb ▸ hb))))]
     exact hc
theorem noR_spec {id off n : Nat} : ∀ {l : List ((Nat × Nat) × AV0)}, noR id off n l = true → ∀ o, off ≤ o → o < off + n → fndR id o l = .un
 | [], _, _, _, _ => rfl
 | p :: r, h, o, h1, h2 => by
  simp only [noR, nblt, nbeq] at h
  simp only [fndR, nbeq]
  by_cases e : p.1.1 = id
  · by_cases e2 : p.1.2 = o
    · subst e2; simp [e, h2, Nat.not_lt.2 h1] at h
    · simp only [e, e2, decide_true, decide_false, cond_true, cond_false]
      refine noR_spec ?_ o h1 h2
      revert h
      cases (decide (p.1.1 = id) && (!decide (p.1.2 < off) && decide (p.1.2 < off + n))) <;> simp
  · simp only [e, decide_false, cond_false]
    refine noR_spec ?_ o h1 h2
    simpa [e] using h
theorem storeVar_run {T : TypeId} {t : Ty} (ht : TyP P t T) (w : World) (b off : Nat) (cur : Array Value) (T0 : TypeId) (hb : w.heap[b]? = some (.cells cur T0 (0, 0))) (v : Value) (pre d post : List Value) (hcur : cur.toList = pre ++ d ++ post) (hpre : pre.length = off) (hd : d.length = t.size) (hv : v.cells.toList.length = t.size) (h1 : ∀ u ∈ v.cells.toList, u.oneCell' = true) :
 (storeVar T ⟨b, off, none⟩ v).run P w = .ok () (w.setRow b (pre ++ v.cells.toList ++ post).toArray) := by
 obtain ⟨i, z, hi, hs, hz, hzc⟩ := ht.inf.out
 have hsz : cur.size = (pre ++ d ++ post).length := by rw [← hcur]; simp
 have := run_storeCells_at (P := P) b off T0 v.cells.toList 0 cur w hb (by rw [hsz]; simp; simp at hv; omega) h1
 have hvs : v.cells.size = t.size := by simpa using hv
 simp only [storeVar, sizeOf, typeInfo, Sem.run_bind, run_program, Result.andThen_ok, hi, Sem.run_pure, hs, hvs, ne_eq, not_true, if_false]
 rw [this]
 congr 3
 have hlen : off + 0 + v.cells.toList.length = (pre ++ d).length := by rw [hv]; simp [hd, hpre]
 rw [hlen, hcur, List.drop_left, Nat.add_zero, List.append_assoc pre d post, ← hpre, List.take_left]
theorem holeAt_rep {w : World} {ok : Nat → Prop} : ∀ {t : Ty} {x : t.D} {off : Nat} {k : HK} {cs : List Value}, holeAt t off = some k → Rep w ok t x cs →
 ∃ c d e, cs = c ++ [d] ++ e ∧ c.length = off ∧ ∀ v : Value, v.oneCell' = true → Rep w ok t x (c ++ [v] ++ e) := by
 intro t
 induction t with
 | pair a b iha ihb =>
  intro x off k cs h r
  obtain ⟨c1, c2, rfl, r1, r2⟩ := r
  simp only [holeAt, nblt] at h
  by_cases hlt : off < a.size
  · simp only [hlt, decide_true, cond_true] at h
    obtain ⟨c, d, e, rfl, hl, hv⟩ := iha h r1
    exact ⟨c, d, e ++ c2, by simp, hl, fun v hv' => ⟨c ++ [v] ++ e, c2, by simp, hv v hv', r2⟩⟩
  · simp only [hlt, decide_false, cond_false] at h
    obtain ⟨c, d, e, rfl, hl, hv⟩ := ihb h r2
    refine ⟨c1 ++ c, d, e, by simp, ?_, fun v hv' => ⟨c1, c ++ [v] ++ e, by simp, r1, hv v hv'⟩⟩
    rw [List.length_append, r1.len, hl]; omega
 | hole k' =>
  intro x off k cs h r
  cases off with
  | succ n => cases h
  | zero =>
   obtain ⟨v, rfl, hv⟩ := r
   exact ⟨[], v, [], rfl, rfl, fun v hv' => ⟨v, rfl, hv'⟩⟩
 | _ => intro x off k cs h r; cases off <;> cases h
theorem Rel.rf_ (r : Rel w0 m ok st a w) {hp' : List (Nat × Ob)} {rf' : List ((Nat × Nat) × AV0)} (hhp : ∀ i, fnd i hp' = fnd i st.hp) (h : ∀ id off, fndR id off rf' ≠ .un → ∀ T t x, fnd id st.hp = some (.box T t x) → ∃ b v, m id = .pointer (some ⟨b, 0, none⟩) ∧ w.cell? ⟨b, off, none⟩ = some v ∧ RepA0 w ok m st.hp (fndR id off rf') v) : Rel w0 m ok { st with hp := hp', rf := rf' } a w := by
 have key : ∀ {x : AV0} {v : Value}, RepA0 w ok m st.hp x v → RepA0 w ok m hp' x v := fun {x v} hx => RepA0.hp (fun id _ => ⟨rfl, fun o ho => ⟨o, by rw [← hhp]; exact ho, fun e t xs h => ⟨xs, h⟩, fun e t xs h => ⟨xs, h⟩⟩⟩) hx
 refine ⟨r.defers, r.size, fun i => ?_, fun id o ho => r.ob id o (by rw [← hhp]; exact ho), fun id o b ho => r.sep id o b (by rw [← hhp]; exact ho), fun id id' o o' b ho ho' => r.inj id id' o o' b (by rw [← hhp]; exact ho) (by rw [← hhp]; exact ho'), r.okb, r.keep, fun id v hv => ⟨(r.pins id v hv).1, fun o ho => (r.pins id v hv).2 o (by rw [← hhp]; exact ho)⟩, fun id off hu T t x ho => ?_⟩
 · have hi := r.env i
   revert hi
   show RepA w ok m st.hp (st.get i) _ → RepA w ok m hp' (st.get i) _
   cases st.get i with
   | v x => exact fun hi => key hi
   | tup l => exact fun ⟨us, e, hl, hi⟩ => ⟨us, e, hl, fun i x hx => let ⟨u, hu, hr⟩ := hi i x hx; ⟨u, hu, key hr⟩⟩
 · obtain ⟨b, v, e, hc, hr⟩ := h id off hu T t x (by rw [← hhp]; exact ho)
   exact ⟨b, v, e, hc, key hr⟩
theorem Here.holeSet (h : Here P cx w0 ok0 m ok st a w) {id off b : Nat} {T0 : TypeId} {t : Ty} {x0 : t.D} {k : HK} (hf : fnd id st.hp = some (.box T0 t x0)) (hm : m id = .pointer (some ⟨b, 0, none⟩)) (hole : holeAt t off = some k) {T e : TypeId} {t' : Ty} (hT : TyP P (.sl e t') T) {v : AV0} {u : Value} (hu : u.cells.toList = [u]) (h1 : u.oneCell' = true) (hv : ∀ w', RepA0 w' ok m st.hp v u) :
 ∃ cells, (storeVar T ⟨b, off, none⟩ u).run P w = .ok () (w.setRow b cells) ∧ Here P cx w0 ok0 m ok (st.setR (id, off) v) a (w.setRow b cells) := by
 obtain ⟨b', cells, hm', hb, hr⟩ := h.r.ob id _ hf
 obtain rfl := ptr_block hm hm'
 obtain ⟨c, d, e', hcs, hl, hrr⟩ := holeAt_rep hole hr
 have hrun := storeVar_run (P := P) hT w b off cells T0 hb u c [d] e' hcs hl rfl (by rw [hu]; rfl) (by rw [hu]; intro q hq; simp at hq; subst hq; exact h1)
 rw [hu] at hrun
 refine ⟨_, hrun, ?_⟩
 -- the cell forgotten
 have r0 : Rel w0 m ok { st with hp := st.hp, rf := ((id, off), .un) :: st.rf } a w := h.r.rf_ (fun _ => rfl) (fun i o hne T t x hf' => by
  simp only [fndR, nbeq] at hne ⊢
  by_cases e1 : id = i
  · by_cases e2 : off = o
    · simp [e1, e2] at hne
    · simp only [e1, e2, decide_true, decide_false, cond_true, cond_false] at hne ⊢; exact h.r.rfs i o hne T t x hf'
  · simp only [e1, decide_false, cond_false] at hne ⊢; exact h.r.rfs i o hne T t x hf')
 have h0 : Here P cx w0 ok0 m ok { st with hp := st.hp, rf := ((id, off), .un) :: st.rf } a w := ⟨h.cx, r0, h.f⟩
 have hcell : ((c ++ [u] ++ e').toArray)[off]? = some u := by
  rw [List.getElem?_toArray, ← hl]
  have := mid_get (c := c) (d := [u]) (e := e') (j := 0) (u := u) rfl
  simp at this ⊢
 have hh := h0.setRow (ob' := .box T0 t x0) hf (by rw [hm]; rfl) cells (c ++ [u] ++ e').toArray T0 hb ⟨fun _ _ _ h => (nomatch h), fun T t x h => ⟨x, h⟩⟩
  (fun w' hok hb' => ⟨b, _, hm, hb', by simpa using (hrr u h1).move hok (fun _ h => h)⟩)
  (fun off' v' hne _ _ _ _ hv' => by
   have hno : off' ≠ off := fun e => by
    subst e
    simp [fndR, nbeq] at hne
   rw [← Array.getElem?_toList, hcs] at hv'
   rw [List.getElem?_toArray]
   exact mid_out (d := [d]) (d' := [u]) rfl (by rw [hl]; simp; omega) hv')
 have hcell2 : (w.setRow b (c ++ [u] ++ e').toArray).cell? ⟨b, off, none⟩ = some u := by
  unfold World.cell?
  rw [setRow_heap w b cells _ T0 (0, 0) hb]
  simpa using hcell
 have hback : ∀ i, fnd i st.hp = fnd i (ins id (.box T0 t x0) st.hp) := fun i => by
  rw [fnd_ins]
  split
  · rename_i e1; rw [e1]; exact hf
  · rfl
 have r1 := hh.r.rf_ (hp' := st.hp) (rf' := ((id, off), v) :: st.rf) hback (fun i o hne T1 t1 x1 hf1 => by
  have hf1' : fnd i st.hp = some (.box T1 t1 x1) := by rw [hback]; exact hf1
  by_cases e1 : id = i ∧ off = o
  · obtain ⟨rfl, rfl⟩ := e1
    refine ⟨b, u, hm, hcell2, ?_⟩
    rw [show fndR id off (((id, off), v) :: st.rf) = v from by simp [fndR]]
    refine RepA0.hp (m := m) (hp := st.hp) (fun i' _ => ⟨rfl, fun o' ho' => ⟨o', by rw [hback]; exact ho', fun e t xs h => ⟨xs, h⟩, fun e t xs h => ⟨xs, h⟩⟩⟩) (hv _)
  · have e2 : ∀ q, fndR i o (((id, off), q) :: st.rf) = fndR i o st.rf := fun q => by
     simp only [fndR, nbeq]
     by_cases h3 : id = i
     · have : ¬ off = o := fun h4 => e1 ⟨h3, h4⟩
       simp [h3, this]
     · simp [h3]
    rw [e2] at hne ⊢
    have := hh.r.rfs i o (by show fndR i o (((id, off), .un) :: st.rf) ≠ .un; rw [e2]; exact hne) T1 t1 x1 hf1
    obtain ⟨b2, v2, g1, g2, g3⟩ := this
    refine ⟨b2, v2, g1, g2, ?_⟩
    have g3' : RepA0 _ ok m _ (fndR i o (((id, off), .un) :: st.rf)) v2 := g3
    rw [e2] at g3'
    exact g3')
 exact ⟨h.cx, r1, hh.f⟩
theorem ptr_val (h : Here P cx w0 ok0 m ok st a w) {x : Operand} {id off : Nat} {T0 : TypeId} {t : Ty} {x0 : t.D} (hp : opA cx st 0 x = .v (.ptr id off)) (hf : fnd id st.hp = some (.box T0 t x0)) : ∃ b, m id = .pointer (some ⟨b, 0, none⟩) ∧ a.eval x = .pointer (some ⟨b, off, none⟩) := by
 have hx := h.r.op cx 0 x
 rw [hp] at hx
 exact hx _ _ _ hf
theorem row_cells {e : TypeId} {t : Ty} {xs : List t.D} {v : Value} (h : RepO w ok (.row e t xs) v) : v.cells.toList = [v] ∧ v.oneCell' = true := by
 obtain ⟨inner, hown, _⟩ := h
 rcases hown.2 with ⟨rfl, _⟩ | ⟨g, cap, cur, rfl, _⟩ <;> exact ⟨rfl, rfl⟩
theorem hren_run {d : Nat} {v : AV0} (r : Rel w0 m ok st a w) : ∃ m', Rel w0 m' ok (hren d v st) a w := by
 unfold hren
 split
 · rename_i j
   cases hb : (Nat.beq d 0 || (Nat.beq j d || !Nat.blt d st.n)) with
   | true => exact ⟨m, r⟩
   | false =>
    simp only [cond_false]
    simp only [Bool.or_eq_false_iff, Bool.not_eq_false', nblt, decide_eq_true_eq] at hb
    split
    · rename_i o ho
      exact ⟨_, r.ren0 (Nat.ne_of_beq_eq_false hb.2.1) ho fun v hv => by
       have := (r.pins d v hv).1
       omega⟩
    · exact ⟨m, r⟩
 · exact ⟨m, r⟩
theorem store_hole (h : Here P cx w0 ok0 m ok st a w) {T : TypeId} {x y : Operand} (ho : o.op = .store T x y) {k : Nat × Nat} {v : AV0} (hq : holQ cx st T (opA cx st 0 x) (opA cx st T y) = some (k, v)) (hk : K ((hren (cx.hn k.1 k.2) v (st.setR k v)).put o.dst (.v .un))) : o.wp P a w (Nxt w0 ok0 K) Q := by
 unfold holQ at hq
 split at hq
 · rename_i id off hp
   split at hq
   · rename_i T0 t x0 e t' hf hT
     split at hq
     · rename_i kk hh
       split at hq
       · rename_i v' hv
         cases hq
         obtain ⟨b, hm, e1⟩ := ptr_val h hp hf
         unfold holV at hv
         split at hv
         · rename_i j hy
           split at hv
           · rename_i e2 t2 xs hfj
             cases hv
             have hy' := h.r.op cx T y
             rw [hy] at hy'
             have hyv : a.eval y = m j := hy' _ _ _ hfj
             obtain ⟨g1, g2⟩ := row_cells (h.r.ob j _ hfj)
             obtain ⟨cells, hrun, h2⟩ := h.holeSet (v := .row j) (u := a.eval y) hf hm hh (h.cx.ty T _ hT) (by rw [hyv]; exact g1) (by rw [hyv]; exact g2) (fun w' => hy')
             obtain ⟨m', r'⟩ := hren_run (d := cx.hn id off) (v := .row j) h2.r
             refine wp_skp (w' := w.setRow b cells) ?_ ⟨_, hk, m', ok, r'.put (x := .v .un) trivial o.dst, h2.f⟩
             simp only [execOp, ho, e1, Instr.storeAt, Instr.sureAddr, Sem.run_bind, Sem.run_pure, Result.andThen_ok, hrun]
           · cases hv
         · cases hv
       · cases hq
     · cases hq
   · cases hq
 · cases hq
theorem Rel.mkN (r : Rel w0 m ok st a w) (d : Nat) (ob : Ob) (u : Value) (ho : RepO w ok ob u)
 (hs : ∀ b, blk u = some b → ¬ ok b ∧ w0.fr b ∧ b < w.heap.size) (hi : ∀ b id o', id ≠ d → fnd id st.hp = some o' → blk u = some b → blk (m id) ≠ some b) (hd : d < st.n) :
 Rel w0 (fun i => if i = d then u else m i) ok (st.mkN d ob) a w := by
 have r1 := r.mk0 d ob .un u (a.tmps.getD d undef) ho trivial hs hi hd
 have e1 : a.put (some d) (a.tmps.getD d undef) = a := by
  show ({ a with tmps := a.tmps.setIfInBounds d (a.tmps.getD d undef) } : Act) = a
  congr 1
  refine Array.ext (by simp) fun i h1 h2 => ?_
  rw [Array.getElem_setIfInBounds (by simpa using h2)]
  split
  · rename_i e; subst e; simp [Array.getD_eq_getD_getElem?, Array.getElem?_eq_getElem h2]
  · rfl
 rw [e1] at r1
 refine ⟨r1.defers, r1.size, fun i => ?_, r1.ob, r1.sep, r1.inj, r1.okb, r1.keep, r1.pins, r1.rfs⟩
 show RepA w ok _ (ins d ob st.hp) (fndE i (mapE (AV.kill d) st.env)) _
 rw [fndE_map (AV.kill d) rfl]
 exact RepA.kill_ (fun id h => by simp [h]) (fun id h => by rw [fnd_ins]; simp [h]) (r.env i)
theorem store_nil (h : Here P cx w0 ok0 m ok st a w) {T : TypeId} {x y : Operand} (ho : o.op = .store T x y) {k : Nat × Nat} {e : TypeId} {t : Ty} {d : Nat} (hn : holN cx st T (opA cx st 0 x) y = some (k, e, t)) (hsp : (Nat.blt d st.n && !Nat.beq d k.1) = true) (hk : K (((st.mkN d (.row e t [])).setR k (.row d)).put o.dst (.v .un))) : o.wp P a w (Nxt w0 ok0 K) Q := by
 rw [nblt, nbeq] at hsp
 simp only [Bool.and_eq_true, decide_eq_true_eq, Bool.not_eq_true', decide_eq_false_iff_not] at hsp
 obtain ⟨hd, hne⟩ := hsp
 unfold holN at hn
 split at hn
 · rename_i id off hp
   split at hn
   · rename_i T0 t0 x0 e' t' hf hT
     split at hn
     · rename_i hh
       cases hn
       have hne : d ≠ id := hne
       obtain ⟨b, hm, e1⟩ := ptr_val h hp hf
       have r1 := h.r.mkN d (.row e t []) (.slice none 0 0) ⟨[], ⟨by simp, .inl ⟨rfl, rfl⟩⟩, rfl⟩ (fun b hb => by cases hb) (fun b id o' _ _ hb => by cases hb) hd
       have h1 : Here P cx w0 ok0 _ ok (st.mkN d (.row e t [])) a w := ⟨h.cx, r1, h.f⟩
       have hf1 : fnd id (st.mkN d (.row e t [])).hp = some (.box T0 t0 x0) := by
        show fnd id (ins d _ st.hp) = _
        rw [fnd_ins, if_neg (fun e => hne e.symm)]; exact hf
       obtain ⟨cells, hrun, h2⟩ := h1.holeSet (v := .row d) (u := .slice none 0 0) hf1 (by show (if id = d then _ else m id) = _; rw [if_neg (fun e => hne e.symm)]; exact hm) hh (h.cx.ty T _ hT) rfl rfl (fun w' e2 t2 xs2 hf2 => by simp)
       refine wp_skp (w' := w.setRow b cells) ?_ ⟨_, hk, _, ok, h2.r.put (x := .v .un) trivial o.dst, h2.f⟩
       simp only [execOp, ho, e1, show a.eval (.const (.slice none 0 0)) = .slice none 0 0 from rfl, Instr.storeAt, Instr.sureAddr, Sem.run_bind, Sem.run_pure, Result.andThen_ok, hrun]
     · cases hn
   · cases hn
 · cases hn
theorem storeVar_ptr {T : TypeId} (ht : ∃ i, P.info? T = some i ∧ i.size = 1) (w : World) (b off : Nat) (cur : Array Value) (T0 : TypeId) (hb : w.heap[b]? = some (.cells cur T0 (0, 0))) (v : Value) (pre d post : List Value) (hcur : cur.toList = pre ++ d ++ post) (hpre : pre.length = off) (hd : d.length = 1) (hv : v.cells.toList = [v]) (h1 : v.oneCell' = true) :
 (storeVar T ⟨b, off, none⟩ v).run P w = .ok () (w.setRow b (pre ++ [v] ++ post).toArray) := by
 obtain ⟨i, hi, hs⟩ := ht
 have hsz : cur.size = (pre ++ d ++ post).length := by rw [← hcur]; simp
 have := run_storeCells_at (P := P) b off T0 v.cells.toList 0 cur w hb (by rw [hsz, hv]; simp; omega) (by rw [hv]; intro u hu; simp at hu; subst hu; exact h1)
 have hvs : v.cells.size = 1 := by have := congrArg List.length hv; simpa using this
 simp only [storeVar, sizeOf, typeInfo, Sem.run_bind, run_program, Result.andThen_ok, hi, Sem.run_pure, hs, hvs, ne_eq, not_true, if_false]
 rw [this, hv]
 congr 3
 have hlen : off + 0 + [v].length = (pre ++ d).length := by simp [hd, hpre]
 rw [hlen, hcur, List.drop_left, Nat.add_zero, List.append_assoc pre d post, ← hpre, List.take_left]
theorem pub_run (h : Here P cx w0 ok0 m ok st a w) {t : Ty} {q : AV} {u : Value} {st1 : St} {z : Option t.D} (hq : RepA w ok m st.hp q u) (hp : pubV st t q = some (st1, z)) : ∃ ok', Here P cx w0 ok0 m ok' st1 a w ∧ Rep w ok' (.op t) z [u] ∧ u.cells.toList = [u] ∧ u.oneCell' = true ∧ ∀ id o, fnd id st1.hp = some o → fnd id st.hp = some o := by
 unfold pubV at hp
 split at hp
 · cases hp
   have e : u = .pointer none := hq
   subst e
   exact ⟨ok, h, rfl, rfl, rfl, fun _ _ h => h⟩
 · split at hp
   · rename_i t' y y' hc
     cases hp
     obtain ⟨ad, cs, rfl, hok, hr, hcell⟩ := hq
     exact ⟨ok, h, ⟨ad, cs, rfl, hok, cast?_rep hc hr, hcell⟩, rfl, rfl, fun _ _ h => h⟩
   · cases hp
 · rename_i id
   split at hp
   · rename_i T' t' y hf
     split at hp
     · rename_i y' hc
       cases hp
       obtain ⟨b, hm, rfl⟩ := hq _ _ _ hf
       obtain ⟨ok', ⟨k1, k2, k3, k4, _⟩, r1⟩ := h.r.freeze id
       obtain ⟨b', cells, hm', hb, hr⟩ := h.r.ob id _ hf
       obtain rfl := ptr_block hm hm'
       refine ⟨ok', ⟨h.cx, r1, fun b hb => (k2 b hb).elim (h.f b) .inr⟩, ⟨⟨b, 0, none⟩, cells.toList, rfl, k3 _ hf b (by rw [hm]; rfl), (cast?_rep hc hr).move (fun _ _ => rfl) k1, fun j u hu => ?_⟩, rfl, rfl, k4⟩
       rw [Addr.add_mid, Nat.zero_add]
       simp [World.cell?, hb] at hu ⊢
       simpa using hu
     · cases hp
   · cases hp
 · cases hp
theorem store_op (h : Here P cx w0 ok0 m ok st a w) {T : TypeId} {x y : Operand} (ho : o.op = .store T x y) (hk : storeO cx st T (opA cx st 0 x) (opA cx st T y) fun st => K (st.put o.dst (.v .un))) : o.wp P a w (Nxt w0 ok0 K) Q := by
 have hx := h.r.op cx 0 x
 have hy := h.r.op cx T y
 unfold storeO at hk
 split at hk
 rotate_left
 · exact hk.elim
 rename_i id off i f n t hp
 rw [hp] at hx
 replace hx : RepA0 w ok m st.hp (.bel id off i f n (.op t)) (a.eval x) := hx
 obtain ⟨hpf, hk⟩ := stat_out hk
 simp only [Bool.and_eq_true] at hpf
 have hf0 := Nat.eq_of_beq_eq_true hpf.2
 split at hk
 rotate_left
 · exact hk.elim
 rename_i st1 z hpub
 obtain ⟨ok', h', hrep, hu1, hu2, hback⟩ := pub_run h hy hpub
 split at hk
 rotate_left
 · exact hk.elim
 rename_i T0 bt x0 hf
 split at hk
 rotate_left
 · exact hk.elim
 rename_i xs hg
 split at hk
 rotate_left
 · exact hk.elim
 rename_i x1 hs
 obtain ⟨hi, hk⟩ := hk
 obtain ⟨hno, hk⟩ := stat_out hk
 obtain ⟨b, hm, e⟩ := hx _ _ _ (hback _ _ hf)
 obtain ⟨b', cells, hm', hb, hr⟩ := h'.r.ob id _ hf
 obtain rfl := ptr_block hm hm'
 obtain ⟨cA, dA, eA, hcs, hl, hlenA, hrl⟩ := getAt_rep hg hr
 have hlenA : xs.length = n := hlenA
 have hin : i < xs.length := by omega
 obtain ⟨c1, d1, e1, hcs1, hl1, hr1, hd1⟩ := RepL.get (s := Ty.size (.op t)) (fun x c r => Rep.len r) hrl hin
 have hs1 : Ty.size (.op t) = 1 := rfl
 have hrl' : RepL (Rep w ok' (.op t)) (xs.set i z) (c1 ++ [a.eval y] ++ e1) := by
  rw [hcs1] at hrl
  exact RepL.set (s := Ty.size (.op t)) (fun x c r => Rep.len r) hrl hl1 hd1 hin hrep
 have hrA : Rep w ok' (.arr n (.op t)) (xs.set i z) (c1 ++ [a.eval y] ++ e1) := ⟨by rw [List.length_set]; exact hlenA, hrl'⟩
 obtain ⟨cB, dB, eB, hcsB, hlB, hdB, hrB⟩ := setAt_rep hs hr hrA
 have hdl' : (c1 ++ [a.eval y] ++ e1).length = dA.length := by rw [hcs1]; simp only [List.length_append, List.length_singleton]; rw [hd1, hs1]
 obtain ⟨h5, h6⟩ := List.append_inj (hcsB.symm.trans hcs) (by rw [List.length_append, List.length_append, hlB, hl, hdB, hdl'])
 obtain ⟨rfl, rfl⟩ := List.append_inj h5 (by rw [hl, hlB])
 subst h6
 have hdn : dB.length = n * Ty.size (.op t) := by
  have := RepL.len (s := Ty.size (.op t)) (fun x c r => Rep.len r) hrl
  rw [this, hlenA]
 have hcur : cells.toList = (cB ++ c1) ++ d1 ++ (e1 ++ eB) := by rw [hcs, hcs1]; simp
 have hpre : (cB ++ c1).length = off + i * Ty.size (.op t) + f := by rw [List.length_append, hl, hl1, hf0]; omega
 have hrun := storeVar_ptr (P := P) (h'.cx.ptrS T hpf.1) w b (off + i * Ty.size (.op t) + f) cells T0 hb (a.eval y) (cB ++ c1) d1 (e1 ++ eB) hcur hpre (by rw [hd1, hs1]) hu1 hu2
 have hsame : (cB ++ c1) ++ [a.eval y] ++ (e1 ++ eB) = cB ++ (c1 ++ [a.eval y] ++ e1) ++ eB := by simp
 have hh := h'.setRow (ob' := .box T0 bt x1) hf (by rw [hm]; rfl) cells ((cB ++ c1) ++ [a.eval y] ++ (e1 ++ eB)).toArray T0 hb ⟨fun _ _ _ h => (nomatch h), fun T t x h => (by cases h; exact ⟨_, rfl⟩)⟩
  (fun w' hok hb' => ⟨b, _, hm, hb', by rw [hsame]; simpa using hrB.move hok (fun _ h => h)⟩)
  (fun off' v hu _ _ _ _ hv => by
   have hor : off' < off ∨ off + n * Ty.size (.op t) ≤ off' := by
    rcases Nat.lt_or_ge off' off with h | h
    · exact .inl h
    · rcases Nat.lt_or_ge off' (off + n * Ty.size (.op t)) with h2 | h2
      · exact (hu (noR_spec hno off' h h2)).elim
      · exact .inr h2
   rw [← Array.getElem?_toList, hcs] at hv
   rw [hsame]
   show ((cB ++ (c1 ++ [a.eval y] ++ e1) ++ eB).toArray)[off']? = some v
   rw [List.getElem?_toArray]
   exact mid_out hdl'.symm (by rw [hl, hdn]; exact hor) hv)
 refine wp_skp (w' := w.setRow b ((cB ++ c1) ++ [a.eval y] ++ (e1 ++ eB)).toArray) ?_ ⟨_, hk, m, ok', hh.r.put (x := .v .un) trivial o.dst, hh.f⟩
 simp only [execOp, ho, e, Instr.storeAt, Instr.sureAddr, Sem.run_bind, Sem.run_pure, Result.andThen_ok, hrun]
theorem op_store (h : Here P cx w0 ok0 m ok st a w) {T : TypeId} {x y : Operand} (ho : o.op = .store T x y) (hk : aop cx o K st) : o.wp P a w (Nxt w0 ok0 K) Q := by
 unfold aop at hk
 rw [ho] at hk
 simp only at hk
 split at hk
 · rename_i k e t hn
   obtain ⟨hsp, hk⟩ := stat_out hk
   exact store_nil h ho hn hsp hk
 split at hk
 · rename_i k v hq
   exact store_hole h ho hq hk
 cases hop : isOp (opA cx st 0 x) with
 | true =>
  rw [hop, cond_true] at hk
  exact store_op h ho hk
 | false =>
 rw [hop, cond_false] at hk
 unfold one at hk
 split at hk
 · rename_i p hp
   have hx := h.r.op cx 0 x
   rw [hp] at hx
   replace hx : RepA0 w ok m st.hp p (a.eval x) := hx
   obtain ⟨ok', ⟨h1, h2, h3⟩, h'⟩ := h.frozen (opA cx st T y).ids
   have hy := roV_rep h.r h1 h3 h2 (h.r.op cx T y)
   generalize AV.ro st.hp (opA cx st T y) = q at hk hy
   have hx' : RepA0 w ok' m (freezes st (opA cx st T y).ids).hp p (a.eval x) := by
    cases p with
    | tv _ _ => exact RepA0.ok_ (m := m) (hp := st.hp) h1 hx
    | rptr t z => exact RepA0.ok_ (ok := ok) (ok' := ok') (m := m) (hp := st.hp) (x := .rptr t z) h1 hx
    | fn _ => exact hx
    | own _ _ _ => trivial
    | un => trivial
    | nilp => exact hx
    | sub id lo n => exact fun e t xs hf => hx e t xs (h3 _ _ hf)
    | str t x rs => exact RepA0.hp (a := .str t x rs) (fun id _ => ⟨rfl, fun o ho => ⟨o, h3 _ _ ho, fun e t xs e1 => ⟨xs, e1⟩, fun T t x e1 => ⟨x, e1⟩⟩⟩) (RepA0.ok_ (ok := ok) (ok' := ok') (m := m) (hp := st.hp) (x := .str t x rs) h1 hx)
    | row id => exact fun e t xs hf => hx e t xs (h3 _ _ hf)
    | ptr id off => exact fun e t xs hf => hx e t xs (h3 _ _ hf)
    | elt id i off => exact fun e t xs hf => hx e t xs (h3 _ _ hf)
    | bel id o i f n t => exact fun T bt x hf => hx T bt x (h3 _ _ hf)
    | wbx id o n e t => exact fun T bt x hf => hx T bt x (h3 _ _ hf)
    | clo f t z => exact RepA0.ok_ (ok := ok) (ok' := ok') (m := m) (hp := st.hp) (x := .clo f t z) h1 hx
    | glb g => exact hx
    | gel g i => exact hx
   clear hx h
   generalize freezes st (opA cx st T y).ids = st1 at *
   unfold storeA at hk
   split at hk
   · rename_i t' id off t'' z ht
     split at hk
     · rename_i z' hz
       split at hk
       · rename_i T0 t x0 hf
         split at hk
         · rename_i x1 hs
           obtain ⟨hno, hk⟩ := stat_out hk
           obtain ⟨b, hm, e⟩ := hx' _ _ _ hf
           obtain ⟨b', cells, hm', hb, hr⟩ := h'.r.ob id _ hf
           rw [hm] at hm'
           obtain rfl : b = b' := by injection hm' with hm'; injection hm' with hm'; injection hm'
           have rv := cast?_repV hz hy
           obtain ⟨c, d, e', hcs, hl, hd, hrr⟩ := setAt_rep hs hr rv.cells
           have hrun := storeVar_run (P := P) (h'.cx.ty T t' ht) w b off cells T0 hb (a.eval y) c d e' hcs hl (by rw [hd, rv.cells.len]) rv.cells.len rv.cells.one
           have hh := h'.setRow (ob' := .box T0 t x1) hf (by rw [hm]; rfl) cells (c ++ (a.eval y).cells.toList ++ e').toArray T0 hb ⟨fun _ _ _ h => (nomatch h), fun T t x h => (by cases h; exact ⟨_, rfl⟩)⟩
            (fun w' hok hb' => ⟨b, _, hm, hb', by simpa using hrr.move hok (fun _ h => h)⟩)
            (fun off' v hu _ _ _ _ hv => by
             have hvl := rv.cells.len
             have hor : off' < off ∨ off + t'.size ≤ off' := by
              rcases Nat.lt_or_ge off' off with h | h
              · exact .inl h
              · rcases Nat.lt_or_ge off' (off + t'.size) with h2 | h2
                · exact (hu (noR_spec hno off' h h2)).elim
                · exact .inr h2
             rw [← Array.getElem?_toList, hcs] at hv
             show ((c ++ (a.eval y).cells.toList ++ e').toArray)[off']? = some v
             rw [List.getElem?_toArray]
             rcases hor with h | h
             · rw [List.append_assoc, List.getElem?_append_left (by omega)] at hv ⊢; exact hv
             · rw [List.getElem?_append_right (by rw [List.length_append, hl, hd, hvl]; exact h)] at hv
               rw [List.getElem?_append_right (by rw [List.length_append, hl, hvl]; exact h)]
               simp only [List.length_append] at hv ⊢
               rw [hd] at hv
               exact hv)
           refine wp_skp (w' := w.setRow b (c ++ (a.eval y).cells.toList ++ e').toArray) ?_ ⟨_, hk, m, ok', hh.r.put (x := .v .un) trivial o.dst, hh.f⟩
           simp only [execOp, ho, e, Instr.storeAt, Instr.sureAddr, Sem.run_bind, Sem.run_pure, Result.andThen_ok, hrun]
         · exact hk.elim
       · exact hk.elim
     · exact hk.elim
   · rename_i t' id off i f n t t'' z ht
     split at hk
     · rename_i z' hz
       split at hk
       · rename_i T0 bt x0 hf
         split at hk
         · rename_i xs hg
           split at hk
           · rename_i z1 hz1
             split at hk
             · rename_i x1 hs
               obtain ⟨hi, hk⟩ := hk
               obtain ⟨hno, hk⟩ := stat_out hk
               obtain ⟨b, hm, e⟩ := hx' _ _ _ hf
               obtain ⟨b', cells, hm', hb, hr⟩ := h'.r.ob id _ hf
               obtain rfl := ptr_block hm hm'
               have rv := cast?_repV hz hy
               obtain ⟨c, d, e', hcs, hl, hlen, hrl⟩ := getAt_rep hg hr
               have hlen : xs.length = n := hlen
               have hin : i < xs.length := by omega
               obtain ⟨c1, d1, e1, hcs1, hl1, hr1, hd1⟩ := RepL.get (s := t.size) (fun x c r => Rep.len r) hrl hin
               rw [show ixN t.zero xs i = xs[i] from by simp [hin]] at hz1
               obtain ⟨c2, d2, e2, hcs2, hl2, hd2, hr2⟩ := setAt_rep hz1 hr1 rv.cells
               have hrs : RepL (Rep w ok' t) (xs.set i z1) (c1 ++ (c2 ++ (a.eval y).cells.toList ++ e2) ++ e1) := RepL.set (s := t.size) (fun x c r => Rep.len r) (hcs1 ▸ hrl) hl1 hd1 hin hr2
               have hdl : d.length = n * t.size := by rw [RepL.len (s := t.size) (fun x c r => Rep.len r) hrl, hlen]
               have hdl' : (c1 ++ (c2 ++ (a.eval y).cells.toList ++ e2) ++ e1).length = n * t.size := by rw [RepL.len (s := t.size) (fun x c r => Rep.len r) hrs, List.length_set, hlen]
               obtain ⟨cA, dA, eA, hcsA, hlA, hdA, hrA⟩ := setAt_rep hs hr (show Rep w ok' (.arr n t) (xs.set i z1) _ from ⟨by rw [List.length_set]; exact hlen, hrs⟩)
               obtain ⟨h5, h6⟩ := List.append_inj (hcsA.symm.trans hcs) (by rw [List.length_append, List.length_append, hlA, hl, hdA, hdl', hdl])
               obtain ⟨rfl, rfl⟩ := List.append_inj h5 (by rw [hl, hlA])
               subst h6
               have hcur : cells.toList = (cA ++ c1 ++ c2) ++ d2 ++ (e2 ++ e1 ++ eA) := by rw [hcs, hcs1, hcs2]; simp
               have hpre : (cA ++ c1 ++ c2).length = off + i * t.size + f := by simp [hl, hl1, hl2]; omega
               have hrun := storeVar_run (P := P) (h'.cx.ty T t' ht) w b (off + i * t.size + f) cells T0 hb (a.eval y) (cA ++ c1 ++ c2) d2 (e2 ++ e1 ++ eA) hcur hpre (by rw [hd2, rv.cells.len]) rv.cells.len rv.cells.one
               have hsame : (cA ++ c1 ++ c2) ++ (a.eval y).cells.toList ++ (e2 ++ e1 ++ eA) = cA ++ (c1 ++ (c2 ++ (a.eval y).cells.toList ++ e2) ++ e1) ++ eA := by simp
               have hh := h'.setRow (ob' := .box T0 bt x1) hf (by rw [hm]; rfl) cells ((cA ++ c1 ++ c2) ++ (a.eval y).cells.toList ++ (e2 ++ e1 ++ eA)).toArray T0 hb ⟨fun _ _ _ h => (nomatch h), fun T t x h => (by cases h; exact ⟨_, rfl⟩)⟩
                (fun w' hok hb' => ⟨b, _, hm, hb', by rw [hsame]; simpa using hrA.move hok (fun _ h => h)⟩)
                (fun off' v hu _ _ _ _ hv => by
                 have hor : off' < off ∨ off + n * t.size ≤ off' := by
                  rcases Nat.lt_or_ge off' off with h | h
                  · exact .inl h
                  · rcases Nat.lt_or_ge off' (off + n * t.size) with h2 | h2
                    · exact (hu (noR_spec hno off' h h2)).elim
                    · exact .inr h2
                 rw [← Array.getElem?_toList, hcs] at hv
                 rw [hsame]
                 show ((cA ++ (c1 ++ (c2 ++ (a.eval y).cells.toList ++ e2) ++ e1) ++ eA).toArray)[off']? = some v
                 rw [List.getElem?_toArray]
                 exact mid_out (by rw [hdl, hdl']) (by rw [hl, hdl]; exact hor) hv)
               refine wp_skp (w' := w.setRow b ((cA ++ c1 ++ c2) ++ (a.eval y).cells.toList ++ (e2 ++ e1 ++ eA)).toArray) ?_ ⟨_, hk, m, ok', hh.r.put (x := .v .un) trivial o.dst, hh.f⟩
               simp only [execOp, ho, e, Instr.storeAt, Instr.sureAddr, Sem.run_bind, Sem.run_pure, Result.andThen_ok, hrun]
             · exact hk.elim
           · exact hk.elim
         · exact hk.elim
       · exact hk.elim
     · exact hk.elim
   · rename_i t' id i off t'' z ht
     split at hk
     · rename_i z' hz
       split at hk
       · rename_i e0 t xs hf
         split at hk
         · rename_i x1 hs
           obtain ⟨hi, hk⟩ := hk
           obtain ⟨b, n, c, hm, e⟩ := hx' _ _ _ hf
           obtain ⟨b', n', c', cur, pre, d, post, hm', hn, hnc, hcm, hb, hsz, hcur, hpre, hdl, hr⟩ := row_at (h'.r.ob id _ hf) hi
           have hm2 := hm
           rw [hm] at hm'
           obtain ⟨rfl, rfl, rfl⟩ : b = b' ∧ n = n' ∧ c = c' := by injection hm' with hm' h1 h2; injection hm' with hm'; injection hm' with hm'; exact ⟨hm', h1, h2⟩
           rw [show ixN t.zero xs i = xs[i] from by simp [hi]] at hs
           have rv := cast?_repV hz hy
           obtain ⟨c1, d1, e1, hcs, hl, hd, hrr⟩ := setAt_rep hs hr rv.cells
           have hrun := storeVar_run (P := P) (h'.cx.ty T t' ht) w b (i * t.size + off) cur e0 hb (a.eval y) (pre ++ c1) d1 (e1 ++ post) (by rw [hcur, hcs]; simp) (by simp [hpre, hl]) (by rw [hd, rv.cells.len]) rv.cells.len rv.cells.one
           have hlen : (c1 ++ (a.eval y).cells.toList ++ e1).length = t.size := hrr.len
           have hh := h'.setRow (ob' := .row e0 t (xs.set i x1)) hf (by rw [hm]; rfl) cur (pre ++ c1 ++ (a.eval y).cells.toList ++ (e1 ++ post)).toArray e0 hb ⟨fun _ _ _ h => (by cases h; exact ⟨_, rfl⟩), fun T t x h => (nomatch h)⟩
            (fun w' hok hb' => by
             obtain ⟨inner, hown, hrl⟩ := h'.r.ob id _ hf
             rcases hown.2 with ⟨e2, _⟩ | ⟨g, cap, cur2, e2, _, hg, _, _, _, htake⟩
             · rw [hm] at e2; cases e2
             · rw [hm] at e2
               injection e2 with e2 e3 e4
               injection e2 with e2
               injection e2 with e2
               subst e2 e4
               rw [hb] at hg
               obtain rfl : cur = cur2 := by injection hg with hg; injection hg
               have hlx : xs.length * t.size ≤ c * t.size := Nat.mul_le_mul_right _ (by omega)
               have hi1 : (i + 1) * t.size ≤ xs.length * t.size := Nat.mul_le_mul_right _ hi
               rw [Nat.add_mul, Nat.one_mul] at hi1
               obtain ⟨p2, hp2⟩ : ∃ p2, inner = pre ++ d ++ p2 := by
                refine ⟨post.take (xs.length * t.size - (pre ++ d).length), ?_⟩
                rw [← htake, hcur, List.take_append, List.take_of_length_le (by simp; omega)]
               rw [hp2] at hrl
               have hset := RepL.set (s := t.size) (fun x c r => Rep.len r) hrl hpre hdl hi (y := x1) hrr
               have hset' := RepL.imp (fun x c (r : Rep w ok' t x c) => r.move (w' := w') hok (ok' := ok') (fun _ h => h)) hset
               refine ⟨pre ++ (c1 ++ (a.eval y).cells.toList ++ e1) ++ p2, ⟨?_, .inr ⟨b, c, _, by rw [hm, hn, List.length_set], Nat.zero_le _, hb', by rw [List.length_set]; omega, hcm, ?_, ?_⟩⟩, hset'⟩
               · have := RepL.len (s := t.size) (fun x c (r : Rep w' ok' t x c) => r.len) hset'
                 rw [this]
               · have hcl : cur.toList.length = cur.size := by simp
                 rw [hcur] at hcl
                 simp at hcl hlen ⊢
                 omega
               · have hp2l : p2 = post.take (xs.length * t.size - (pre ++ d).length) := by
                  have h2 : pre ++ d ++ p2 = pre ++ d ++ post.take (xs.length * t.size - (pre ++ d).length) := by
                   rw [← hp2, ← htake, hcur, List.take_append, List.take_of_length_le (by simp; omega)]
                  exact List.append_cancel_left h2
                 rw [hp2l, List.length_set]
                 have hh : (pre ++ c1 ++ (a.eval y).cells.toList ++ (e1 ++ post)).toArray.toList = (pre ++ (c1 ++ (a.eval y).cells.toList ++ e1)) ++ post := by simp
                 rw [hh, List.take_append, List.take_of_length_le (by rw [List.length_append, hlen]; omega)]
                 congr 2
                 simp only [List.length_append] at hlen ⊢
                 omega)
            (fun _ _ _ _ _ _ h => nomatch h)
           refine wp_skp (w' := w.setRow b (pre ++ c1 ++ (a.eval y).cells.toList ++ (e1 ++ post)).toArray) ?_ ⟨_, hk, m, ok', hh.r.put (x := .v .un) trivial o.dst, hh.f⟩
           simp only [execOp, ho, e, Instr.storeAt, Instr.sureAddr, Sem.run_bind, Sem.run_pure, Result.andThen_ok, hrun]
         · exact hk.elim
       · exact hk.elim
     · exact hk.elim
   · exact hk.elim
 · exact hk.elim
end
end Go.Iv
