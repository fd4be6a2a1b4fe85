/- Operations that may come up at any time: they leave the world alone, and come to the same in any. -/
import Derived.Test.YtggdaoceljekiaaIvE
import Derived.Orders
namespace Go.Iv
open Go.RowKit
set_option linter.unusedVariables false
set_option linter.unusedSimpArgs false

section
variable {P : Program} {cx : Cx} {w0 w : World} {ok0 ok : Nat → Prop} {m : Nat → Value} {st : St} {a : Act} {o : Oper} {K : St → Prop} {Q : Exit → Act → World → Prop}

def Val (P : Program) (w0 : World) (ok0 : Nat → Prop) (m : Nat → Value) (ok : Nat → Prop) (st : St) (a : Act) (w : World) (o : Oper) (K : St → Prop) : Prop :=
  ∃ x v, K (st.put o.dst x) ∧ RepA w ok m st.hp x v ∧ ∀ w' : World, (execOp a.eval o).run P w' = .ok (.value v) w'

theorem eqs_flat : ∀ {t : Ty}, t.eqs = true → t.flat = true
  | .int _, _ => rfl
  | .bool, _ => rfl
  | .str, _ => rfl
  | .unit, _ => rfl
  | .pair a b, h => by simp [Ty.eqs] at h; simp [Ty.flat, eqs_flat h.1, eqs_flat h.2]

theorem q_move (h : Here P cx w0 ok0 m ok st a w) {x : Operand} (ho : o.op = .move x) (hk : K (st.put o.dst (opA cx st o.type x))) : Val P w0 ok0 m ok st a w o K :=
  ⟨_, _, hk, h.r.op cx o.type x, fun w' => by simp [execOp, ho]⟩

theorem q_pick (h : Here P cx w0 ok0 m ok st a w) {c x y : Operand} (ho : o.op = .pick c x y) (hk : aop cx o K st) : Val P w0 ok0 m ok st a w o K := by
  unfold aop at hk
  rw [ho] at hk
  simp only at hk
  split at hk
  · rename_i b hc
    have hv := h.r.op cx 0 c
    rw [hc] at hv
    have hv : a.eval c = .bool b := RepV.bool hv
    cases b with
    | true => exact ⟨_, _, hk, h.r.op cx o.type x, fun w' => by simp [execOp, ho, hv, asBool]⟩
    | false => exact ⟨_, _, hk, h.r.op cx o.type y, fun w' => by simp [execOp, ho, hv, asBool]⟩
  · exact hk.elim

theorem q_extract (h : Here P cx w0 ok0 m ok st a w) {x : Operand} {i : Nat} (ho : o.op = .extract x i) (hk : aop cx o K st) : Val P w0 ok0 m ok st a w o K := by
  unfold aop at hk
  rw [ho] at hk
  simp only at hk
  split at hk
  · rename_i l hc
    have hv := h.r.op cx 0 x
    rw [hc] at hv
    obtain ⟨us, e, hl, hr⟩ := hv
    split at hk
    · rename_i y hi
      obtain ⟨u, hu, hr⟩ := hr i y hi
      exact ⟨.v y, u, hk, hr, fun w' => by simp [execOp, ho, Instr.extract, e, hu]⟩
    · exact hk.elim
  · exact hk.elim

theorem q_unOp (h : Here P cx w0 ok0 m ok st a w) {op : UnOp} {T : TypeId} {x : Operand} (ho : o.op = .unOp op T x) (hk : aop cx o K st) : Val P w0 ok0 m ok st a w o K := by
  unfold aop at hk
  rw [ho] at hk
  simp only [one] at hk
  split at hk
  · rename_i y hc
    have hv := h.r.op cx T x
    rw [hc] at hv
    have hv : RepA0 w ok m st.hp y (a.eval x) := hv
    unfold unA at hk
    split at hk
    · rename_i b hv0
      have e : a.eval x = .bool b := RepV.bool hv
      exact ⟨.v (.tv .bool (!b)), _, hk, RepV.of_bool, fun w' => by simp [execOp, ho, e, Op.unary]⟩
    · rename_i k n hv0
      have e : a.eval x = .int k n := RepV.int hv
      exact ⟨.v (.tv (.int k) _), _, hk, RepV.of_int, fun w' => by simp [execOp, ho, e, Op.unary, Op.intArith]⟩
    · rename_i k n hv0
      have e : a.eval x = .int k n := RepV.int hv
      exact ⟨.v (.tv (.int k) _), _, hk, RepV.of_int, fun w' => by simp [execOp, ho, e, Op.unary, Op.intBits, sbits]⟩
    · exact hk.elim
  · exact hk.elim

theorem q_fieldAddr (h : Here P cx w0 ok0 m ok st a w) {S : TypeId} {x : Operand} {f : Nat} (ho : o.op = .fieldAddr S x f) (hk : aop cx o K st) : Val P w0 ok0 m ok st a w o K := by
  unfold aop at hk
  rw [ho] at hk
  simp only at hk
  unfold one at hk
  split at hk
  · rename_i p hp
    have hx := h.r.op cx 0 x
    rw [hp] at hx
    replace hx : RepA0 w ok m st.hp p (a.eval x) := hx
    clear hp
    revert hx
    unfold fieldAddrA at hk
    split at hk
    · rename_i s hs
      split at hk
      · rename_i off ft hf
        obtain ⟨fs, fl, hu, hfl, hoff, htf, hsz⟩ := fld_struct (h.cx.ty S s hs) hf
        have hrun : ∀ ad : Addr, a.eval x = .pointer (some ad) → ∀ w', (execOp a.eval o).run P w' = .ok (.value (.pointer (some (ad.add off)))) w' := by
          intro ad e w'
          simp [execOp, ho, e, Instr.fieldAt, Instr.sureAddr, run_underlying hu, hfl, fieldPlace, sizeOf_run htf, hsz, hoff]
        split at hk
        · rename_i id off0
          intro hx
          split at hk
          · rename_i T0 t0 x0 hfd
            obtain ⟨b, hm, e⟩ := hx _ _ _ hfd
            refine ⟨.v (.ptr id (off0 + off)), .pointer (some (Addr.add ⟨b, off0, none⟩ off)), hk, ?_, hrun _ e⟩
            intro T' t' x' hf'
            exact ⟨b, hm, by rw [Addr.add_mid]⟩
          · exact hk.elim
        · rename_i id i off0
          intro hx
          split at hk
          · rename_i e0 t0 x0 hfd
            obtain ⟨b, n, c, hm, e⟩ := hx _ _ _ hfd
            refine ⟨.v (.elt id i (off0 + off)), .pointer (some (Addr.add ⟨b, i * t0.size + off0, none⟩ off)), hk, ?_, hrun _ e⟩
            intro e' t' x' hf'
            rw [hfd] at hf'
            cases hf'
            exact ⟨b, n, c, hm, by rw [Addr.add_mid, Nat.add_assoc]⟩
          · exact hk.elim
        · rename_i t z
          intro hx
          split at hk
          · rename_i z' hz
            split at hk
            · rename_i t' y hg
              obtain ⟨ad, cs, e, hok, hr, hc⟩ := hx
              obtain ⟨rfl, c, d, e', hcs, hl, hd⟩ := fget_rep hf hg (cast?_rep hz hr)
              refine ⟨.v (.rptr _ y), .pointer (some (ad.add off)), hk, ⟨_, d, rfl, by rw [add_block]; exact hok, hd, fun j u hu => ?_⟩, hrun _ e⟩
              rw [add_add]
              refine hc _ _ ?_
              rw [hcs, ← hl]
              have hj := (List.getElem?_eq_some_iff.1 hu).1
              rw [List.getElem?_append_left (by simp; omega), List.getElem?_append_right (by omega)]
              simpa using hu
            · exact hk.elim
          · exact hk.elim
        · exact hk.elim
      · exact hk.elim
    · exact hk.elim
  · exact hk.elim

theorem q_indexAddr (h : Here P cx w0 ok0 m ok st a w) {T : TypeId} {x i : Operand} (ho : o.op = .indexAddr T x i) (hk : aop cx o K st) : Val P w0 ok0 m ok st a w o K := by
  unfold aop at hk
  rw [ho] at hk
  simp only at hk
  unfold one at hk
  split at hk
  · rename_i p hp
    have hx := h.r.op cx T x
    rw [hp] at hx
    replace hx : RepA0 w ok m st.hp p (a.eval x) := hx
    clear hp
    split at hk
    · rename_i q hq
      have hi := h.r.op cx 0 i
      rw [hq] at hi
      replace hi : RepA0 w ok m st.hp q (a.eval i) := hi
      clear hq
      revert hx hi
      unfold indexAddrA at hk
      split at hk
      · rename_i e t e' t' xs k n ht
        intro hx hi
        split at hk
        · rename_i xs' hc
          obtain ⟨⟨h0, h1⟩, hk⟩ := hk
          have rv := cast?_repV hc hx
          obtain ⟨A, c, inner, hv, hle, hm, hl⟩ := rv.sl
          have h0' : (0 : Int) ≤ (n : Int) := h0
          have h1' : (n : Int) < (xs'.length : Int) := h1
          have hn : Int.toNat n < xs'.length := idx_lt h0' h1'
          rcases hm with rfl | ⟨ad, rfl, hok, hcell⟩
          · simp at hn
          · have hT := h.cx.ty T _ ht
            have hei : a.eval i = .int k n := RepV.int hi
            obtain ⟨c1, d, e1, hcs, hlc, hr, hd⟩ := RepL.get (s := t.size) (fun x c r => Rep.len r) hl hn
            refine ⟨.v (.rptr t (rd (t := t) xs' n)), .pointer (some (ad.add (n.toNat * t.size))), hk, ⟨_, d, rfl, by rw [add_block]; exact hok, ?_, fun j u hu => ?_⟩, fun w' => ?_⟩
            · rw [show rd (t := t) xs' n = xs'[n.toNat] from by simp [rd, ix, hn]]; exact hr
            · rw [add_add]
              refine hcell _ _ ?_
              rw [hcs, ← hlc]
              have hj := (List.getElem?_eq_some_iff.1 hu).1
              rw [List.getElem?_append_left (by simp; omega), List.getElem?_append_right (by omega)]
              simpa using hu
            · have h1' : (n : Int) < (xs'.length : Int) := h1
              simp [execOp, ho, hv, hei, Instr.indexAt, asIntOf, run_underlying hT.1, h0, h1', sizeOf_run (show TyP P t e from hT.2.1)]
        · exact hk.elim
      · rename_i e t id k n ht
        intro hx hi
        split at hk
        · rename_i e' t' xs hf
          obtain ⟨rfl, rfl, ⟨h0, h1⟩, hk⟩ := hk
          have hT := h.cx.ty T _ ht
          have hei : a.eval i = .int k n := RepV.int hi
          have hv : a.eval x = m id := hx _ _ _ hf
          have h0' : (0 : Int) ≤ (n : Int) := h0
          have h1' : (n : Int) < (xs.length : Int) := h1
          have hn : Int.toNat n < xs.length := idx_lt h0' h1'
          obtain ⟨b, n', c, cur, pre, d, post, hm, hn', hle, _⟩ := row_at (h.r.ob id _ hf) hn
          refine ⟨.v (.elt id n.toNat 0), .pointer (some (Addr.add ⟨b, 0, none⟩ (n.toNat * t'.size))), hk, ?_, fun w' => ?_⟩
          · intro e2 t2 xs2 hf2
            rw [hf] at hf2; cases hf2
            exact ⟨b, n', c, hm, by rw [Addr.add_mid]; simp⟩
          · have h1' : (n : Int) < (n' : Int) := by rw [hn']; exact h1
            simp [execOp, ho, hv, hm, hei, Instr.indexAt, asIntOf, run_underlying hT.1, h0, h1', sizeOf_run (show TyP P t' e' from hT.2.1)]
        · exact hk.elim
      · exact hk.elim
    · exact hk.elim
  · exact hk.elim

theorem q_len (h : Here P cx w0 ok0 m ok st a w) {c : Call} (ho : o.op = .call c) (hc : c.callee = .builtin .len) (hk : aop cx o K st) : Val P w0 ok0 m ok st a w o K := by
  unfold aop at hk
  rw [ho] at hk
  simp only [hc] at hk
  split at hk
  · rename_i x T hargs htys
    have ea := args_one hargs
    have et := args_one htys
    unfold one at hk
    split at hk
    · rename_i q hq
      have hx := h.r.op cx T x
      rw [hq] at hx
      replace hx := peek h.r (show RepA0 w ok m st.hp q (a.eval x) from hx)
      clear hq
      unfold lenA at hk
      revert hx
      split at hk
      · rename_i s hT hq
        rw [hq]
        intro hx
        have e : a.eval x = .string s := RepV.str hx
        exact ⟨.v (.tv (.int .i64) _), _, hk, RepV.of_int, fun w' => by simp [execOp, ho, resolve, hc, ea, et, invoke, builtin, e, Builtin.len_, run_underlying (h.cx.ty T _ hT).1, goInt]⟩
      · rename_i e t e' t' xs hT hq
        rw [hq]
        intro hx
        obtain ⟨A, cc, news, hxv, _⟩ := RepV.sl hx
        exact ⟨.v (.tv (.int .i64) _), _, hk, RepV.of_int, fun w' => by simp [execOp, ho, resolve, hc, ea, et, invoke, builtin, hxv, Builtin.len_, run_underlying (h.cx.ty T _ hT).1, goInt]⟩
      · rename_i n t hT
        intro hx
        obtain ⟨⟨e, hu, _⟩, _⟩ := h.cx.ty T _ hT
        refine ⟨.v (.tv (.int .i64) _), _, hk, RepV.of_int, fun w' => ?_⟩
        simp only [execOp, ho, resolve, hc, ea, et, invoke, builtin, Sem.run_bind, Sem.run_pure, Result.andThen_ok, Builtin.len_, List.map_toArray, List.map_cons, List.map_nil, List.getElem?_toArray, List.getElem?_cons_zero, run_underlying hu, goInt]
      · exact hk.elim
    · exact hk.elim
  · exact hk.elim

theorem q_int {op : BinOp} {k : IntKind} {x y : Int} {J : AV0 → Prop} {T : TypeId} (h : intOp op k x y J) : ∃ (r : AV0) (v : Value), J r ∧ (∀ w' : World, (binOp op T (.int k x) (.int k y)).run P w' = .ok v w') ∧ RepA0 w ok m st.hp r v := by
  cases op <;> simp only [intOp] at h
  case add => exact ⟨_, _, h, fun w' => by simp [binOp, Op.intArith], RepV.of_int⟩
  case sub => exact ⟨_, _, h, fun w' => by simp [binOp, Op.intArith], RepV.of_int⟩
  case mul => exact ⟨_, _, h, fun w' => by simp [binOp, Op.intArith], RepV.of_int⟩
  case quo => exact ⟨_, _, h.2, fun w' => by simp [binOp, Op.intDiv, h.1], RepV.of_int⟩
  case rem => exact ⟨_, _, h.2, fun w' => by simp [binOp, Op.intDiv, h.1], RepV.of_int⟩
  case and => exact ⟨_, _, h, fun w' => by simp [binOp, Op.intBits, sbits], RepV.of_int⟩
  case or => exact ⟨_, _, h, fun w' => by simp [binOp, Op.intBits, sbits], RepV.of_int⟩
  case xor => exact ⟨_, _, h, fun w' => by simp [binOp, Op.intBits, sbits], RepV.of_int⟩
  case andNot => exact ⟨_, _, h, fun w' => by simp [binOp, Op.intBits, sbits], RepV.of_int⟩
  case eql => exact ⟨_, _, h, fun w' => by simp [binOp, Op.intCmp], RepV.of_bool⟩
  case neq => exact ⟨_, _, h, fun w' => by simp [binOp, Op.intCmp], RepV.of_bool⟩
  case lss => exact ⟨_, _, h, fun w' => by simp [binOp, Op.intCmp], RepV.of_bool⟩
  case leq => exact ⟨_, _, h, fun w' => by simp [binOp, Op.intCmp], RepV.of_bool⟩
  case gtr => exact ⟨_, _, h, fun w' => by simp [binOp, Op.intCmp], RepV.of_bool⟩
  case geq => exact ⟨_, _, h, fun w' => by simp [binOp, Op.intCmp], RepV.of_bool⟩

theorem q_str {op : BinOp} {x y : ByteArray} {J : AV0 → Prop} {T : TypeId} (h : strOp op x y J) : ∃ (r : AV0) (v : Value), J r ∧ (∀ w' : World, (binOp op T (.string x) (.string y)).run P w' = .ok v w') ∧ RepA0 w ok m st.hp r v := by
  cases op <;> simp only [strOp] at h
  case add =>
    refine ⟨_, _, h.2, fun w' => ?_, RepV.of_str⟩
    have : ¬ ((x.size + y.size : Nat) : Int) > IntKind.i64.max := by simp; omega
    simp only [binOp, Op.stringOp, if_neg this]; rfl
  case eql => exact ⟨_, _, h, fun w' => by simp [binOp, Op.stringOp], RepV.of_bool⟩
  case neq => exact ⟨_, _, h, fun w' => by simp [binOp, Op.stringOp], RepV.of_bool⟩
  case lss => exact ⟨_, _, h, fun w' => by simp [binOp, Op.stringOp], RepV.of_bool⟩
  case leq => exact ⟨_, _, h, fun w' => by simp [binOp, Op.stringOp], RepV.of_bool⟩
  case gtr => exact ⟨_, _, h, fun w' => by simp [binOp, Op.stringOp], RepV.of_bool⟩
  case geq => exact ⟨_, _, h, fun w' => by simp [binOp, Op.stringOp], RepV.of_bool⟩

theorem q_binOp (h : Here P cx w0 ok0 m ok st a w) {op : BinOp} {T T' : TypeId} {x y : Operand} (ho : o.op = .binOp op T x y T') (hk : aop cx o K st) : Val P w0 ok0 m ok st a w o K := by
  unfold aop at hk
  rw [ho] at hk
  simp only at hk
  unfold one at hk
  split at hk
  · rename_i p hp
    have hx := h.r.op cx T x
    rw [hp] at hx
    have hx := peek h.r (show RepA0 w ok m st.hp p (a.eval x) from hx)
    split at hk
    · rename_i q hq
      have hy := h.r.op cx (yT op T T') y
      rw [hq] at hy
      have hy := peek h.r (show RepA0 w ok m st.hp q (a.eval y) from hy)
      generalize p.ro st.hp = p at hk hx
      generalize q.ro st.hp = q at hk hy
      unfold binA at hk
      split at hk
      · rename_i k n k' n'
        cases hsh : isSh op with
        | true =>
          rw [hsh, cond_true] at hk
          have ex : a.eval x = .int k n := RepV.int hx
          have ey : a.eval y = .int k' n' := RepV.int hy
          obtain ⟨r, v, hj, hr, hv⟩ := sh_run (P := P) (k' := k') (m := m) (ok := ok) (st := st) (T := T) (w := w) hk
          exact ⟨.v r, v, hj, hv, fun w' => by simp only [execOp, ho, ex, ey, Sem.run_bind, eqGuard_int, Result.andThen_ok, hr, Sem.run_pure]⟩
        | false =>
        rw [hsh, cond_false] at hk
        split at hk
        · rename_i e
          subst e
          have ex : a.eval x = .int k n := RepV.int hx
          have ey : a.eval y = .int k n' := RepV.int hy
          obtain ⟨r, v, hj, hr, hv⟩ := q_int (P := P) (m := m) (ok := ok) (st := st) (T := T) (w := w) hk
          exact ⟨.v r, v, hj, hv, fun w' => by simp only [execOp, ho, ex, ey, Sem.run_bind, eqGuard_int, Result.andThen_ok, hr, Sem.run_pure]⟩
        · exact hk.elim
      · rename_i s s'
        have ex : a.eval x = .string s := RepV.str hx
        have ey : a.eval y = .string s' := RepV.str hy
        obtain ⟨r, v, hj, hr, hv⟩ := q_str (P := P) (m := m) (ok := ok) (st := st) (T := T) (w := w) hk
        exact ⟨.v r, v, hj, hv, fun w' => by simp only [execOp, ho, ex, ey, Sem.run_bind, eqGuard_str, Result.andThen_ok, hr, Sem.run_pure]⟩
      · rename_i t1 z1 t2 z2 hn1 hn2
        split at hk
        · rename_i t ht
          obtain ⟨hq, hk⟩ := hk
          have fin : ∀ {a1 b1 : t.D}, cast? t1 t z1 = some a1 → cast? t2 t z2 = some b1 → (∀ w', (binOp .eql T (a.eval x) (a.eval y)).run P w' = .ok (.bool (eqT t a1 b1)) w') ∧ (∀ w', (binOp .neq T (a.eval x) (a.eval y)).run P w' = .ok (.bool (!(eqT t a1 b1))) w') ∧ ∀ w' op, (eqGuard op T x y (a.eval x) (a.eval y)).run P w' = .ok () w' := by
            intro a1 b1 c1 c2
            have rx0 := cast?_repV c1 (show RepV w _ t1 z1 (a.eval x) from hx)
            have ry0 := cast?_repV c2 (show RepV w _ t2 z2 (a.eval y) from hy)
            have main : ∀ w', (binOp .eql T (a.eval x) (a.eval y)).run P w' = .ok (.bool (eqT t a1 b1)) w' ∧ (binOp .neq T (a.eval x) (a.eval y)).run P w' = .ok (.bool (!(eqT t a1 b1))) w' ∧ ∀ op, (eqGuard op T x y (a.eval x) (a.eval y)).run P w' = .ok () w' := by
             intro w'
             have rx : RepV w' (fun _ => True) t a1 (a.eval x) := rx0.flat (eqs_flat hq)
             have ry : RepV w' (fun _ => True) t b1 (a.eval y) := ry0.flat (eqs_flat hq)
             have he := (eq_run (P := P) t hq).1 T 10000 a1 b1 _ _ (h.cx.ty T t ht) (h.cx.dep T t ht) rx ry
             have hg := fun op => eqGuard_run h.cx ht rx ry op x y
             obtain ⟨e1, -⟩ := cast?_some c1
             obtain ⟨e2, -⟩ := cast?_some c2
             have hs : ∀ {z : t.D} {v : Value}, RepV w' (fun _ => True) t z v → (∃ b, v = .bool b) ∨ ∃ cs, v = .agg cs := by
               intro z v r
               cases t with
               | int k => subst e1 e2; exact (hn1 _ _ _ _ rfl HEq.rfl rfl HEq.rfl).elim
               | bool => exact .inl ⟨_, r.bool⟩
               | str => subst e1 e2; exact (hn2 _ _ rfl HEq.rfl rfl HEq.rfl).elim
               | unit => obtain ⟨c, _, e⟩ := r; simp [Ty.isAgg] at e; exact .inr ⟨_, e⟩
               | pair _ _ => obtain ⟨c, _, e⟩ := r; simp [Ty.isAgg] at e; exact .inr ⟨_, e⟩
               | arr _ _ => simp [Ty.eqs] at hq
               | sl _ _ => simp [Ty.eqs] at hq
             have := binOp_eql_run (P := P) (w := w') T (a.eval x) (a.eval y) (by rcases hs rx with ⟨b, e⟩ | ⟨b, e⟩ <;> simp [e]) (by rcases hs rx with ⟨b, e⟩ | ⟨b, e⟩ <;> simp [e]) (hs rx) (hs ry) he
             exact ⟨this.1, this.2, hg⟩
            exact ⟨fun w' => (main w').1, fun w' => (main w').2.1, fun w' => (main w').2.2⟩
          split at hk
          · rename_i a1 b1 c1 c2
            obtain ⟨f1, f2, f3⟩ := fin c1 c2
            exact ⟨.v (.tv .bool _), _, hk, RepV.of_bool, fun w' => by simp only [execOp, ho, Sem.run_bind, f3 w', Result.andThen_ok, f1 w', Sem.run_pure]⟩
          · rename_i a1 b1 c1 c2
            obtain ⟨f1, f2, f3⟩ := fin c1 c2
            exact ⟨.v (.tv .bool _), _, hk, RepV.of_bool, fun w' => by simp only [execOp, ho, Sem.run_bind, f3 w', Result.andThen_ok, f2 w', Sem.run_pure]⟩
          · exact hk.elim
        · exact hk.elim
      · exact hk.elim
    · exact hk.elim
  · exact hk.elim

end
end Go.Iv
