/- Operations proved against the model, fourth part: fields, elements, pieces, conversions, lengths. -/
import Derived.Test.YtcpeakceigidpaaDoorKv8
set_option linter.all false
namespace Go.Iv
open Go.RowKit
variable [GL]
section
variable {P : Program} {cx : Cx} {w0 : Bas} {w : World} {ok0 ok : Nat → Prop} {m : Nat → Value} {st : St} {a : Act} {o : Oper} {K : St → Prop} {Q : Exit → Act → World → Prop}
theorem idx_lt {n : Int} {l : Nat} (h0 : 0 ≤ n) (h1 : n < l) : n.toNat < l := by omega
theorem add_add (ad : Addr) (x y : Nat) : (ad.add x).add y = ad.add (x + y) := by
 unfold Addr.add
 by_cases hx : x = 0 <;> by_cases hy : y = 0 <;> simp [hx, hy, Nat.add_assoc]
theorem add_block (ad : Addr) (x : Nat) : (ad.add x).block = ad.block := by unfold Addr.add; split <;> rfl
theorem fld_chain : ∀ {t : Ty} {fs : List Field} {off f o : Nat} {ft : Ty}, (TyPF P t).2 fs off → fld t f = some (o, ft) → ∃ fl, fs[f]? = some fl ∧ fl.offset = off + o ∧ TyP P ft fl.type ∧ ft.size ≠ 0 := by
 intro t
 induction t with
 | pair a b _ ihb =>
  intro fs off f o ft h hf
  obtain ⟨fl, r, rfl, h1, h2, h3, h4, h5⟩ := h
  cases f with
  | zero => simp only [fld] at hf; cases hf; exact ⟨fl, rfl, by omega, h1, h3⟩
  | succ f =>
   simp only [fld] at hf
   split at hf
   · rename_i o' t' hf'
     cases hf
     obtain ⟨fl', e1, e2, e3⟩ := ihb h5 hf'
     exact ⟨fl', by simpa using e1, by omega, e3⟩
   · cases hf
 | _ => intro fs off f o ft h hf; simp [fld] at hf
theorem fld_struct {t : Ty} {S : TypeId} {f o : Nat} {ft : Ty} (h : TyP P t S) (hf : fld t f = some (o, ft)) : ∃ fs fl, P.underlying S = some (.struct fs) ∧ fs[f]? = some fl ∧ fl.offset = o ∧ TyP P ft fl.type ∧ ft.size ≠ 0 := by
 cases t with
 | pair p q =>
  obtain ⟨⟨fs, hu, fl, r, hl, h1, h2, h3, h4, h5, hp⟩, _⟩ := h
  obtain ⟨fl', e1, e2, e3, e4⟩ := fld_chain (t := .pair p q) (fs := fs.toList) (off := 0) (f := f) ⟨fl, r, hl, h1, h2, h3, h4, h5⟩ hf
  exact ⟨fs, fl', hu, by simpa using e1, by omega, e3, e4⟩
 | _ => simp [fld] at hf
theorem fget_rep : ∀ {t : Ty} {x : t.D} {f o : Nat} {ft t' : Ty} {y : t'.D} {cs : List Value}, fld t f = some (o, ft) → fget t x f = .tv t' y → Rep w ok t x cs → t' = ft ∧ ∃ c d e, cs = c ++ d ++ e ∧ c.length = o ∧ Rep w ok t' y d := by
 intro t
 induction t with
 | pair a b _ ihb =>
  intro x f o ft t' y cs hf hg hr
  obtain ⟨x1, x2⟩ := x
  obtain ⟨c1, c2, rfl, r1, r2⟩ := hr
  cases f with
  | zero => simp only [fld] at hf; cases hf; simp only [fget] at hg; cases hg; exact ⟨rfl, [], c1, c2, by simp, rfl, r1⟩
  | succ f =>
   simp only [fld] at hf
   simp only [fget] at hg
   split at hf
   · rename_i o' t1 hf'
     cases hf
     obtain ⟨rfl, c, d, e, rfl, hl, hd⟩ := ihb hf' hg r2
     exact ⟨rfl, c1 ++ c, d, e, by simp, by simp [hl, r1.len], hd⟩
   · cases hf
 | _ => intro x f o ft t' y cs hf; simp [fld] at hf
theorem fld_of_fget : ∀ {t : Ty} {x : t.D} {f : Nat} {t' : Ty} {y : t'.D}, fget t x f = .tv t' y → ∃ off ft, fld t f = some (off, ft) := by
 intro t
 induction t with
 | pair p q _ ihq =>
  intro x f t' y hg
  obtain ⟨x1, x2⟩ := x
  cases f with
  | zero => exact ⟨_, _, rfl⟩
  | succ f =>
   simp only [fget] at hg
   obtain ⟨off, ft, hf⟩ := ihq hg
   exact ⟨_, _, by simp only [fld, hf]; rfl⟩
 | _ => intro x f t' y hg; simp [fget] at hg
theorem sizeOf_run {t : Ty} {T : TypeId} (h : TyP P t T) : (sizeOf T).run P w = .ok t.size w := by
 obtain ⟨i, z, hi, hs, _⟩ := h.inf.out
 simp [sizeOf, typeInfo, hi, hs]
theorem op_fieldAddr (h : Here P cx w0 ok0 m ok st a w) {S : TypeId} {x : Operand} {f : Nat} (ho : o.op = .fieldAddr S x f) (hk : aop cx o K st) : o.wp P a w (Nxt w0 ok0 K) Q := by
 unfold aop at hk
 rw [ho] at hk
 simp only at hk
 unfold one at hk
 split at hk
 · rename_i p hp
   have hx := h.r.op cx 0 x
   rw [hp] at hx
   replace hx : RepA0 w ok m st.hp p (a.eval x) := hx
   clear hp
   revert hx
   unfold fieldAddrA at hk
   split at hk
   · rename_i t z
     intro hx
     unfold fieldRA at hk
     split at hk
     · rename_i s hs
       split at hk
       · rename_i z' hz
         split at hk
         · rename_i t' y hg
           obtain ⟨off, ft, hf⟩ := fld_of_fget hg
           obtain ⟨fs, fl, hu, hfl, hoff, htf, hsz⟩ := fld_struct (h.cx.rty S s hs) hf
           obtain ⟨ad, cs, e, hok, hr, hc⟩ := hx
           obtain ⟨rfl, c, d, e', hcs, hl, hd⟩ := fget_rep hf hg (cast?_rep hz hr)
           refine h.val (x := .v (.rptr _ y)) (v := .pointer (some (ad.add off))) ⟨_, d, rfl, by rw [add_block]; exact hok, hd, fun j u hu => ?_⟩ (by simp [execOp, ho, e, Instr.fieldAt, Instr.sureAddr, run_underlying hu, hfl, fieldPlace, sizeOf_run htf, hsz, hoff]) hk
           rw [add_add]
           refine hc _ _ ?_
           rw [hcs, ← hl]
           have hj := (List.getElem?_eq_some_iff.1 hu).1
           rw [List.getElem?_append_left (by simp; omega), List.getElem?_append_right (by omega)]
           simpa using hu
         · exact hk.elim
       · exact hk.elim
     · exact hk.elim
   rename_i hnr
   clear hnr
   unfold fieldAddr0 at hk
   split at hk
   · rename_i s hs
     split at hk
     · rename_i off ft hf
       obtain ⟨fs, fl, hu, hfl, hoff, htf, hsz⟩ := fld_struct (h.cx.ty S s hs) hf
       have hrun : ∀ ad : Addr, a.eval x = .pointer (some ad) → (execOp a.eval o).run P w = .ok (.value (.pointer (some (ad.add off)))) w := by
        intro ad e
        simp [execOp, ho, e, Instr.fieldAt, Instr.sureAddr, run_underlying hu, hfl, fieldPlace, sizeOf_run htf, hsz, hoff]
       split at hk
       · rename_i id off0
         intro hx
         split at hk
         · rename_i T0 t0 x0 hfd
           obtain ⟨b, hm, e⟩ := hx _ _ _ hfd
           refine h.val (x := .v (.ptr id (off0 + off))) (v := .pointer (some (Addr.add ⟨b, off0, none⟩ off))) ?_ (hrun _ e) hk
           intro T' t' x' hf'
           exact ⟨b, hm, by rw [Addr.add_mid]⟩
         · exact hk.elim
       · rename_i id i off0
         intro hx
         split at hk
         · rename_i e0 t0 x0 hfd
           obtain ⟨b, n, c, hm, e⟩ := hx _ _ _ hfd
           refine h.val (x := .v (.elt id i (off0 + off))) (v := .pointer (some (Addr.add ⟨b, i * t0.size + off0, none⟩ off))) ?_ (hrun _ e) hk
           intro e' t' x' hf'
           rw [hfd] at hf'
           cases hf'
           exact ⟨b, n, c, hm, by rw [Addr.add_mid, Nat.add_assoc]⟩
         · exact hk.elim
       · rename_i id off0 i g n t0
         intro hx
         split at hk
         · rename_i T1 t1 x1 hfd
           obtain ⟨b, hm, e⟩ := hx _ _ _ hfd
           refine h.val (x := .v (.bel id off0 i (g + off) n t0)) (v := .pointer (some (Addr.add ⟨b, off0 + i * t0.size + g, none⟩ off))) ?_ (hrun _ e) hk
           intro T' t' x' hf'
           exact ⟨b, hm, by rw [Addr.add_mid]; simp [Nat.add_assoc]⟩
         · exact hk.elim
       · exact hk.elim
     · exact hk.elim
   · exact hk.elim
 · exact hk.elim
theorem op_field (h : Here P cx w0 ok0 m ok st a w) {S : TypeId} {x : Operand} {f : Nat} (ho : o.op = .field S x f) (hk : aop cx o K st) : o.wp P a w (Nxt w0 ok0 K) Q := by
 unfold aop at hk
 rw [ho] at hk
 simp only at hk
 unfold one at hk
 split at hk
 · rename_i p hp
   have hx := h.r.op cx S x
   rw [hp] at hx
   replace hx : RepA0 w ok m st.hp p (a.eval x) := hx
   clear hp
   revert hx
   unfold fieldA at hk
   split at hk
   · rename_i s t z hs
     intro hx
     split at hk
     · rename_i z' hz
       split at hk
       · rename_i t' y hg
         have rv := cast?_repV hz hx
         have := fld_of_fget hg
         obtain ⟨off, ft, hf⟩ := this
         obtain ⟨fs, fl, hu, hfl, hoff, htf, hsz⟩ := fld_struct (h.cx.ty S s hs) hf
         obtain ⟨cs, hr, hv⟩ := rv
         have hag : s.isAgg = true := by cases s <;> first | rfl | simp [fld] at hf
         rw [hag, if_pos rfl] at hv
         obtain ⟨rfl, c, d, e', hcs, hl, hd⟩ := fget_rep hf hg hr
         obtain ⟨v, hp, rv, _⟩ := run_part (P := P) fl.type htf cs c d e' hcs hd.len hd
         refine h.val (x := .v (.tv _ y)) rv ?_ hk
         simp only [execOp, ho, hv, Instr.field, Sem.run_bind, run_underlying hu, Result.andThen_ok, hfl, asAgg, Sem.run_pure, hoff, ← hl, hp]
       · exact hk.elim
     · exact hk.elim
   · exact hk.elim
 · exact hk.elim
theorem op_indexAddr (h : Here P cx w0 ok0 m ok st a w) {T : TypeId} {x i : Operand} (ho : o.op = .indexAddr T x i) (hk : aop cx o K st) : o.wp P a w (Nxt w0 ok0 K) Q := by
 unfold aop at hk
 rw [ho] at hk
 simp only at hk
 unfold one at hk
 split at hk
 · rename_i p hp
   have hx := h.r.op cx T x
   rw [hp] at hx
   replace hx : RepA0 w ok m st.hp p (a.eval x) := hx
   clear hp
   split at hk
   · rename_i q hq
     have hi := h.r.op cx 0 i
     rw [hq] at hi
     replace hi : RepA0 w ok m st.hp q (a.eval i) := hi
     clear hq
     revert hx hi
     unfold indexAddrA at hk
     split at hk
     · rename_i e t e' t' xs k n ht
       intro hx hi
       split at hk
       · rename_i xs' hc
         obtain ⟨⟨h0, h1⟩, hk⟩ := hk
         have rv := cast?_repV hc hx
         obtain ⟨A, c, inner, hv, hle, hm, hl⟩ := rv.sl
         have h0' : (0 : Int) ≤ (n : Int) := h0
         have h1' : (n : Int) < (xs'.length : Int) := h1
         have hn : Int.toNat n < xs'.length := idx_lt h0' h1'
         rcases hm with rfl | ⟨ad, rfl, hok, hcell⟩
         · simp at hn
         · have hT := h.cx.ty T _ ht
           have hei : a.eval i = .int k n := RepV.int hi
           obtain ⟨c1, d, e1, hcs, hlc, hr, hd⟩ := RepL.get (s := t.size) (fun x c r => Rep.len r) hl hn
           refine h.val (x := .v (.rptr t (rd (t := t) xs' n))) (v := .pointer (some (ad.add (n.toNat * t.size)))) ⟨_, d, rfl, by rw [add_block]; exact hok, ?_, fun j u hu => ?_⟩ ?_ hk
           · rw [show rd (t := t) xs' n = xs'[n.toNat] from by simp [rd, ix, hn]]; exact hr
           · rw [add_add]
             refine hcell _ _ ?_
             rw [hcs, ← hlc]
             have hj := (List.getElem?_eq_some_iff.1 hu).1
             rw [List.getElem?_append_left (by simp; omega), List.getElem?_append_right (by omega)]
             simpa using hu
           · have h1' : (n : Int) < (xs'.length : Int) := h1
             simp [execOp, ho, hv, hei, Instr.indexAt, asIntOf, run_underlying hT.1, h0, h1', sizeOf_run (show TyP P t e from hT.2.1)]
       · exact hk.elim
     · rename_i e t id k n ht
       intro hx hi
       split at hk
       · rename_i e' t' xs hf
         obtain ⟨e1, hk1⟩ := stat_nat hk
         clear hk
         obtain ⟨e2, hk2⟩ := stat_dec hk1
         clear hk1
         subst e1 e2
         obtain ⟨⟨h0, h1⟩, hk⟩ := hk2
         have hT := h.cx.ty T _ ht
         have hei : a.eval i = .int k n := RepV.int hi
         have hv : a.eval x = m id := hx _ _ _ hf
         have h0' : (0 : Int) ≤ (n : Int) := h0
         have h1' : (n : Int) < (xs.length : Int) := h1
         have hn : Int.toNat n < xs.length := idx_lt h0' h1'
         obtain ⟨b, n', c, cur, pre, d, post, hm, hn', hle, _⟩ := row_at (h.r.ob id _ hf) hn
         refine h.val (x := .v (.elt id n.toNat 0)) (v := .pointer (some (Addr.add ⟨b, 0, none⟩ (n.toNat * t'.size)))) ?_ ?_ hk
         · intro e2 t2 xs2 hf2
           rw [hf] at hf2; cases hf2
           exact ⟨b, n', c, hm, by rw [Addr.add_mid]; simp⟩
         · have h1' : (n : Int) < (n' : Int) := by rw [hn']; exact h1
           simp [execOp, ho, hv, hm, hei, Instr.indexAt, asIntOf, run_underlying hT.1, h0, h1', sizeOf_run (show TyP P t' e' from hT.2.1)]
       · exact hk.elim
     · rename_i e t id lo k kk n ht
       intro hx hi
       split at hk
       · rename_i e' t' xs hf
         obtain ⟨e1, hk1⟩ := stat_nat hk
         clear hk
         obtain ⟨e2, hk2⟩ := stat_dec hk1
         clear hk1
         subst e1 e2
         obtain ⟨⟨h0, h1⟩, hk⟩ := hk2
         have hT := h.cx.ty T _ ht
         have hei : a.eval i = .int kk n := RepV.int hi
         have h0' : (0 : Int) ≤ (n : Int) := h0
         have h1' : (n : Int) < (k : Int) := h1
         rcases hx _ _ _ hf with ⟨rfl, _⟩ | ⟨b, N, C, c, hm, hv⟩
         · have := idx_lt h0' h1'; omega
         refine h.val (x := .v (.elt id (lo + n.toNat) 0)) (v := .pointer (some (Addr.add ⟨b, lo * t'.size, none⟩ (n.toNat * t'.size)))) ?_ ?_ hk
         · intro e2 t2 xs2 hf2
           rw [hf] at hf2; cases hf2
           exact ⟨b, N, C, hm, by rw [Addr.add_mid, Nat.add_mul]; simp⟩
         · simp [execOp, ho, hv, hei, Instr.indexAt, asIntOf, run_underlying hT.1, h0, h1', sizeOf_run (show TyP P t' e' from hT.2.1)]
       · exact hk.elim
     · rename_i mm t id off k n ht
       intro hx hi
       split at hk
       · rename_i T0 bt x0 hf
         split at hk
         · rename_i xs hg
           obtain ⟨⟨h0, h1⟩, hk⟩ := hk
           obtain ⟨⟨e0, hu, hTe⟩, _⟩ := h.cx.ty T _ ht
           have hei : a.eval i = .int k n := RepV.int hi
           obtain ⟨b, hm, hv⟩ := hx _ _ _ hf
           have h0' : (0 : Int) ≤ (n : Int) := h0
           have h1' : (n : Int) < (mm : Int) := h1
           refine h.val (x := .v (.bel id off n.toNat 0 mm t)) (v := .pointer (some (Addr.add ⟨b, off, none⟩ (n.toNat * t.size)))) ?_ ?_ hk
           · intro T1 t1 x1 hf1
             exact ⟨b, hm, by rw [Addr.add_mid]; simp⟩
           · simp [execOp, ho, hv, hei, Instr.indexAt, Instr.sureAddr, asIntOf, run_underlying hu, h0, h1', sizeOf_run hTe]
         · exact hk.elim
       · exact hk.elim
     · rename_i mm t t' xs k n ht
       intro hx hi
       split at hk
       · rename_i xs' hc
         obtain ⟨⟨h0, h1⟩, hk⟩ := hk
         obtain ⟨⟨e0, hu, hTe⟩, _⟩ := h.cx.ty T _ ht
         have hei : a.eval i = .int k n := RepV.int hi
         obtain ⟨ad, cs, hv, hok, hr, hcell⟩ := hx
         have hr' := cast?_rep hc hr
         obtain ⟨hlen, hl⟩ := hr'
         have h0' : (0 : Int) ≤ (n : Int) := h0
         have h1' : (n : Int) < (mm : Int) := h1
         have hlen' : xs'.length = mm := hlen
         have hn : Int.toNat n < xs'.length := hlen' ▸ idx_lt h0' h1'
         obtain ⟨c1, d, e1, hcs, hlc, hr, hd⟩ := RepL.get (s := t.size) (fun x c r => Rep.len r) hl hn
         refine h.val (x := .v (.rptr t (rd (t := t) xs' n))) (v := .pointer (some (ad.add (n.toNat * t.size)))) ⟨_, d, rfl, by rw [add_block]; exact hok, ?_, fun j u hu => ?_⟩ ?_ hk
         · rw [show rd (t := t) xs' n = xs'[n.toNat] from by simp [rd, ix, hn]]; exact hr
         · rw [add_add]
           refine hcell _ _ ?_
           rw [hcs, ← hlc]
           have hj := (List.getElem?_eq_some_iff.1 hu).1
           rw [List.getElem?_append_left (by simp; omega), List.getElem?_append_right (by omega)]
           simpa using hu
         · simp [execOp, ho, hv, hei, Instr.indexAt, Instr.sureAddr, asIntOf, run_underlying hu, h0, h1', sizeOf_run hTe]
       · exact hk.elim
     · rename_i e t id off mm e2 t' k n ht
       intro hx hi
       split at hk
       · rename_i T0 bt x0 hf
         obtain ⟨e3, hk1⟩ := stat_dec hk
         clear hk
         subst e3
         split at hk1
         · rename_i xs hg
           obtain ⟨⟨h0, h1⟩, hk⟩ := hk1
           have hT := h.cx.ty T _ ht
           have hei : a.eval i = .int k n := RepV.int hi
           obtain ⟨b, hm, hv⟩ := hx _ _ _ hf
           have h0' : (0 : Int) ≤ (n : Int) := h0
           have h1' : (n : Int) < (mm : Int) := h1
           refine h.val (x := .v (.bel id off n.toNat 0 mm t')) (v := .pointer (some (Addr.add ⟨b, off, none⟩ (n.toNat * t'.size)))) ?_ ?_ hk
           · intro T1 t1 x1 hf1
             exact ⟨b, hm, by rw [Addr.add_mid]; simp⟩
           · simp [execOp, ho, hv, hei, Instr.indexAt, asIntOf, run_underlying hT.1, h0, h1', sizeOf_run (show TyP P t' e from hT.2.1)]
         · exact hk1.elim
       · exact hk.elim
     · rename_i mm t g k n ht
       intro hx hi
       split at hk
       · rename_i p hp
         obtain ⟨hs, hk⟩ := stat_nat hk
         obtain ⟨⟨h0, h1⟩, hk⟩ := hk
         obtain ⟨⟨e0, hu, hTe⟩, _⟩ := h.cx.ty T _ ht
         have hei : a.eval i = .int k n := RepV.int hi
         have hv : a.eval x = .pointer (some ⟨g, 0, none⟩) := hx
         have h0' : (0 : Int) ≤ (n : Int) := h0
         have h1' : (n : Int) < (mm : Int) := h1
         refine h.val (x := .v (.gel g n.toNat)) (v := .pointer (some (Addr.add ⟨g, 0, none⟩ (n.toNat * t.size)))) ?_ ?_ hk
         · show _ = _
           rw [Addr.add_mid, hs]; simp
         · simp [execOp, ho, hv, hei, Instr.indexAt, Instr.sureAddr, asIntOf, run_underlying hu, h0, h1', sizeOf_run hTe]
       · exact hk.elim
     · exact hk.elim
   · exact hk.elim
 · exact hk.elim
theorem op_index (h : Here P cx w0 ok0 m ok st a w) {T : TypeId} {x i : Operand} (ho : o.op = .index T x i) (hk : aop cx o K st) : o.wp P a w (Nxt w0 ok0 K) Q := by
 unfold aop at hk
 rw [ho] at hk
 simp only at hk
 unfold one at hk
 split at hk
 · rename_i p hp
   have hx := h.r.op cx T x
   rw [hp] at hx
   replace hx : RepA0 w ok m st.hp p (a.eval x) := hx
   clear hp
   split at hk
   · rename_i q hq
     have hi := h.r.op cx 0 i
     rw [hq] at hi
     replace hi : RepA0 w ok m st.hp q (a.eval i) := hi
     clear hq
     revert hx hi
     unfold indexA at hk
     split at hk
     · rename_i s k n ht
       intro hx hi
       obtain ⟨⟨h0, h1⟩, hk⟩ := hk
       have hT := h.cx.ty T _ ht
       have hei : a.eval i = .int k n := RepV.int hi
       have hes : a.eval x = .string s := RepV.str hx
       have h0' : (0 : Int) ≤ (n : Int) := h0
       have h1 : (n : Int) < (s.size : Int) := h1
       have hn : Int.toNat n < s.size := idx_lt h0' h1
       refine h.val (x := .v (.tv (.int .u8) (bt s n))) (v := .int .u8 (bt s n)) RepV.of_int ?_ hk
       have hget : s[n.toNat]? = some (s[n.toNat]'hn) := by rw [getElem?_pos s n.toNat hn]
       have hb : ((s[n.toNat]'hn).toNat : Int) = bt s n := by
        have hd : s.data.toList.getD n.toNat 0 = s[n.toNat]'hn := by
         have : n.toNat < s.data.toList.length := by simpa using hn
         rw [List.getD_eq_getElem?_getD, List.getElem?_eq_getElem this]
         simp; rfl
        unfold bt; rw [hd]
       simp only [execOp, ho, hes, hei, Instr.index, asIntOf, Sem.run_bind, Sem.run_pure, Result.andThen_ok, run_underlying hT.1, if_pos h0, hget, hb]
     · rename_i mm t mm' t' xs k n ht
       intro hx hi
       split at hk
       · rename_i xs' hc
         obtain ⟨⟨h0, h1⟩, hk⟩ := hk
         have hT := h.cx.ty T _ ht
         obtain ⟨⟨e, hu, hTe⟩, _⟩ := hT
         have hei : a.eval i = .int k n := RepV.int hi
         obtain ⟨cs, ⟨hlen, hl⟩, hv⟩ := cast?_repV hc hx
         simp [Ty.isAgg] at hv
         have h0' : (0 : Int) ≤ (n : Int) := h0
         have h1' : (n : Int) < (mm : Int) := h1
         have hlen' : xs'.length = mm := hlen
         have hn : Int.toNat n < xs'.length := hlen' ▸ idx_lt h0' h1'
         obtain ⟨c1, d, e1, hcs, hlc, hr, hd⟩ := RepL.get (s := t.size) (fun x c r => Rep.len r) hl hn
         obtain ⟨v, hp, rv, _⟩ := run_part (P := P) e hTe cs c1 d e1 hcs hd hr
         refine h.val (x := .v (.tv t (rd (t := t) xs' n))) (v := v) ?_ ?_ hk
         · show RepV w ok t (rd (t := t) xs' n) v
           rw [show rd (t := t) xs' n = xs'[n.toNat] from by simp [rd, ix, hn]]; exact rv
         · simp only [execOp, ho, hv, hei, Instr.index, asIntOf, Sem.run_bind, Sem.run_pure, Result.andThen_ok, run_underlying hu, sizeOf_run hTe, Sem.run_ite]
           rw [if_pos ⟨h0, h1⟩, ← hlc, hp]
           rfl
       · exact hk.elim
     · exact hk.elim
   · exact hk.elim
 · exact hk.elim
end
end Go.Iv
