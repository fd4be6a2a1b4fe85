/- Operations proved against the model, second part: numbers, texts, comparisons. -/
import Derived.Test.YtcpeakceigidpaaDoorKv6
import Derived.Laws.StructEq
import Derived.ChangeKeysEq
set_option linter.all false
namespace Go.Iv
open Go.RowKit
variable [GL]
section
variable {P : Program} {cx : Cx} {w0 : Bas} {w : World} {ok0 ok : Nat → Prop} {m : Nat → Value} {st : St} {a : Act} {o : Oper} {K : St → Prop} {Q : Exit → Act → World → Prop}
theorem bits8 (k : IntKind) : 8 ≤ k.bits := by cases k <;> decide
theorem sh_run {op : BinOp} {k k' : IntKind} {x y : Int} {J : AV0 → Prop} {T : TypeId} (h : shOp op k x y J) : ∃ (r : AV0) (v : Value), J r ∧ (∀ w' : World, (binOp op T (.int k x) (.int k' y)).run P w' = .ok v w') ∧ RepA0 w ok m st.hp r v := by
 have hb := bits8 k
 cases op <;> simp only [shOp] at h
 all_goals first
  | exact h.elim
  | (obtain ⟨⟨h1, h2⟩, h⟩ := h
     have hn : ¬ (y < 0) := by omega
     have hm : min y.toNat k.bits = y.toNat := Nat.min_eq_left (by omega)
     exact ⟨_, _, h, fun w' => by simp [binOp, Op.shift, hn, hm, shrI, shlI], RepV.of_int⟩)
theorem int_run {op : BinOp} {k : IntKind} {x y : Int} {J : AV0 → Prop} {T : TypeId} (h : intOp op k x y J) : ∃ (r : AV0) (v : Value), J r ∧ (binOp op T (.int k x) (.int k y)).run P w = .ok v w ∧ RepA0 w ok m st.hp r v := by
 cases op <;> simp only [intOp] at h
 case add => exact ⟨_, _, h, by simp [binOp, Op.intArith], RepV.of_int⟩
 case sub => exact ⟨_, _, h, by simp [binOp, Op.intArith], RepV.of_int⟩
 case mul => exact ⟨_, _, h, by simp [binOp, Op.intArith], RepV.of_int⟩
 case quo => exact ⟨_, _, h.2, by simp [binOp, Op.intDiv, h.1], RepV.of_int⟩
 case rem => exact ⟨_, _, h.2, by simp [binOp, Op.intDiv, h.1], RepV.of_int⟩
 case and => exact ⟨_, _, h, by simp [binOp, Op.intBits, sbits], RepV.of_int⟩
 case or => exact ⟨_, _, h, by simp [binOp, Op.intBits, sbits], RepV.of_int⟩
 case xor => exact ⟨_, _, h, by simp [binOp, Op.intBits, sbits], RepV.of_int⟩
 case andNot => exact ⟨_, _, h, by simp [binOp, Op.intBits, sbits], RepV.of_int⟩
 case eql => exact ⟨_, _, h, by simp [binOp, Op.intCmp], RepV.of_bool⟩
 case neq => exact ⟨_, _, h, by simp [binOp, Op.intCmp], RepV.of_bool⟩
 case lss => exact ⟨_, _, h, by simp [binOp, Op.intCmp], RepV.of_bool⟩
 case leq => exact ⟨_, _, h, by simp [binOp, Op.intCmp], RepV.of_bool⟩
 case gtr => exact ⟨_, _, h, by simp [binOp, Op.intCmp], RepV.of_bool⟩
 case geq => exact ⟨_, _, h, by simp [binOp, Op.intCmp], RepV.of_bool⟩
theorem str_run {op : BinOp} {x y : ByteArray} {J : AV0 → Prop} {T : TypeId} (h : strOp op x y J) : ∃ (r : AV0) (v : Value), J r ∧ (binOp op T (.string x) (.string y)).run P w = .ok v w ∧ RepA0 w ok m st.hp r v := by
 cases op <;> simp only [strOp] at h
 case add =>
  refine ⟨_, _, h.2, ?_, RepV.of_str⟩
  have : ¬ ((x.size + y.size : Nat) : Int) > IntKind.i64.max := by simp; omega
  simp only [binOp, Op.stringOp, if_neg this]; rfl
 case eql => exact ⟨_, _, h, by simp [binOp, Op.stringOp], RepV.of_bool⟩
 case neq => exact ⟨_, _, h, by simp [binOp, Op.stringOp], RepV.of_bool⟩
 case lss => exact ⟨_, _, h, by simp [binOp, Op.stringOp], RepV.of_bool⟩
 case leq => exact ⟨_, _, h, by simp [binOp, Op.stringOp], RepV.of_bool⟩
 case gtr => exact ⟨_, _, h, by simp [binOp, Op.stringOp], RepV.of_bool⟩
 case geq => exact ⟨_, _, h, by simp [binOp, Op.stringOp], RepV.of_bool⟩
theorem op_unOp (h : Here P cx w0 ok0 m ok st a w) {op : UnOp} {T : TypeId} {x : Operand} (ho : o.op = .unOp op T x) (hk : aop cx o K st) : o.wp P a w (Nxt w0 ok0 K) Q := by
 unfold aop at hk
 rw [ho] at hk
 simp only [one] at hk
 split at hk
 · rename_i y hc
   have hv := h.r.op cx T x
   rw [hc] at hv
   have hv : RepA0 w ok m st.hp y (a.eval x) := hv
   unfold unA at hk
   split at hk
   · rename_i b hv0
     have e : a.eval x = .bool b := RepV.bool hv
     exact h.val (x := .v (.tv .bool (!b))) RepV.of_bool (by simp [execOp, ho, e, Op.unary]) hk
   · rename_i k n hv0
     have e : a.eval x = .int k n := RepV.int hv
     exact h.val (x := .v (.tv (.int k) _)) RepV.of_int (by simp [execOp, ho, e, Op.unary, Op.intArith]) hk
   · rename_i k n hv0
     have e : a.eval x = .int k n := RepV.int hv
     exact h.val (x := .v (.tv (.int k) _)) RepV.of_int (by simp [execOp, ho, e, Op.unary, Op.intBits, sbits]) hk
   · exact hk.elim
 · exact hk.elim
theorem run_part (T : TypeId) {t : Ty} (ht : TyP P t T) (cs c d e : List Value) (hcs : cs = c ++ d ++ e) (hd : d.length = t.size) {x : t.D} (hr : Rep w ok t x d) :
 ∃ v, (part T cs.toArray c.length).run P w = .ok v w ∧ RepV w ok t x v ∧ v.cells.toList = d := by
 obtain ⟨dd, hu, h1, h2⟩ := ht.agg
 obtain ⟨i, z, hi, hs, hz, hc⟩ := ht.inf.out
 cases hag : t.isAgg with
 | true =>
  have hagg : (isAgg T).run P w = .ok true w := by
   rcases h1 hag with ⟨fs, rfl⟩ | ⟨n, e, rfl⟩ <;> simp [isAgg, underlying, hu]
  refine ⟨.agg d.toArray, ?_, ⟨d, hr, by rw [hag, if_pos rfl]⟩, by simp [Value.cells]⟩
  simp only [part, Sem.run_bind, hagg, Result.andThen_ok, if_true, sizeOf, typeInfo, run_program, hi, Sem.run_pure, hs]
  rw [show cs.toArray.extract c.length (c.length + t.size) = d.toArray from by
   subst hcs
   apply Array.ext'
   simp [← hd]]
 | false =>
  have hagg : (isAgg T).run P w = .ok false w := by
   obtain ⟨h3, h4⟩ := h2 hag
   cases dd <;> first | (simp [isAgg, underlying, hu]; done) | (exact absurd rfl (h3 _)) | (exact absurd rfl (h4 _ _))
  have h1 : d.length = 1 := by
   rw [hd]; cases t <;> simp [Ty.isAgg] at hag <;> rfl
  obtain ⟨v, rfl⟩ : ∃ v, d = [v] := by
   match d, h1 with
   | [v], _ => exact ⟨v, rfl⟩
  have hone := hr.one v (by simp)
  refine ⟨v, ?_, ⟨[v], hr, by rw [hag, if_neg (by simp)]⟩, by cases v <;> first | rfl | simp [Value.oneCell'] at hone⟩
  have hget : cs.toArray[c.length]? = some v := by subst hcs; simp
  simp only [part, Sem.run_bind, hagg, Result.andThen_ok, if_false, Bool.false_eq_true, hget, Sem.run_pure]
theorem beqA (a b : ByteArray) : (a == b) = (a.toList == b.toList) := beq_toListBytes a b
theorem eq_run : ∀ (t : Ty), t.eqs = true →
 (∀ (T : TypeId) (d : Nat) (x y : t.D) (u v : Value), TyP P t T → t.dep < d → RepV w ok t x u → RepV w ok t y v → (Op.equalIn d T u v).run P w = .ok (eqT t x y) w) ∧
 (∀ (fs : List Field) (off d : Nat) (x y : t.D) (xs ys c c' e e' : List Value), (TyPF P t).2 fs off → t.dep ≤ d → c.length = off → c'.length = off → (∃ l, xs = c ++ l ++ e ∧ Rep w ok t x l) → (∃ l, ys = c' ++ l ++ e' ∧ Rep w ok t y l) → (Op.eqFields d xs.toArray ys.toArray fs).run P w = .ok (eqT t x y) w) := by
 intro t
 induction t with
 | int k =>
  intro _
  refine ⟨fun T d x y u v hT hd hx hy => ?_, fun fs off d x y xs ys c c' e e' h => h.elim⟩
  obtain ⟨d, rfl⟩ : ∃ n, d = n + 1 := ⟨d - 1, by omega⟩
  rw [hx.int, hy.int, run_equalIn_int w d T k k x y hT.1]; rfl
 | bool =>
  intro _
  refine ⟨fun T d x y u v hT hd hx hy => ?_, fun fs off d x y xs ys c c' e e' h => h.elim⟩
  obtain ⟨d, rfl⟩ : ∃ n, d = n + 1 := ⟨d - 1, by omega⟩
  rw [hx.bool, hy.bool, run_equalIn_bool' w d T x y hT.1]; rfl
 | str =>
  intro _
  refine ⟨fun T d x y u v hT hd hx hy => ?_, fun fs off d x y xs ys c c' e e' h => h.elim⟩
  obtain ⟨d, rfl⟩ : ∃ n, d = n + 1 := ⟨d - 1, by omega⟩
  rw [hx.str, hy.str, run_equalIn_string w d T x y hT.1, ← beqA]; rfl
 | unit =>
  intro _
  refine ⟨fun T d x y u v hT hd hx hy => ?_, fun fs off d x y xs ys c c' e e' h _ _ _ _ _ => ?_⟩
  · obtain ⟨d, rfl⟩ : ∃ n, d = n + 1 := ⟨d - 1, by omega⟩
    obtain ⟨⟨fs, hu, hl, hp⟩, _⟩ := hT
    obtain ⟨c1, h1, e1⟩ := hx
    obtain ⟨c2, h2, e2⟩ := hy
    simp [Ty.isAgg] at e1 e2
    have hfs : P.fieldsOf T = fs := by simp [Program.fieldsOf, hu]
    rw [e1, e2, run_equalIn_struct w d T _ _ (by rw [hfs]; exact hu) hp, hfs, hl]
    rfl
  · have : fs = [] := h
    subst this; rfl
 | arr n t ih =>
  intro hq
  refine ⟨fun T d x y u v hT hd hx hy => ?_, fun fs off d x y xs ys c c' e e' h => h.elim⟩
  obtain ⟨d, rfl⟩ : ∃ n, d = n + 1 := ⟨d - 1, by omega⟩
  obtain ⟨⟨e, hu, he⟩, _⟩ := hT
  obtain ⟨i, z, hi, hs, _⟩ := (TyP.inf (t := t) he).out
  have hcell : P.cellsOf e = t.size := by simp [Program.cellsOf, hi, hs]
  obtain ⟨c1, ⟨hl1, h1⟩, e1⟩ := hx
  obtain ⟨c2, ⟨hl2, h2⟩, e2⟩ := hy
  simp [Ty.isAgg] at e1 e2
  simp only [Ty.dep] at hd
  rw [e1, e2, run_equalIn_array w d _ _ hu hi, hcell]
  have main : ∀ (m k : Nat), k + m = n → (Op.eqItems d e t.size c1.toArray c2.toArray (List.range' k m)).run P w = .ok ((List.zipWith (eqT t) (List.drop k x) (List.drop k y)).all id) w := by
   intro m
   induction m with
   | zero =>
    intro k hk
    rw [List.drop_eq_nil_of_le (by rw [hl1]; omega)]
    simp [Op.eqItems]
   | succ m ihm =>
    intro k hk
    have hk1 : k < List.length x := by rw [hl1]; omega
    have hk2 : k < List.length y := by rw [hl2]; omega
    obtain ⟨a1, b1, q1, hc1, hp1, hr1, hd1⟩ := RepL.get (s := t.size) (fun x c r => Rep.len r) h1 hk1
    obtain ⟨a2, b2, q2, hc2, hp2, hr2, hd2⟩ := RepL.get (s := t.size) (fun x c r => Rep.len r) h2 hk2
    obtain ⟨u', hu', ru, _⟩ := run_part (P := P) (w := w) e he c1 a1 b1 q1 hc1 hd1 hr1
    obtain ⟨v', hv', rv, _⟩ := run_part (P := P) (w := w) e he c2 a2 b2 q2 hc2 hd2 hr2
    rw [hp1] at hu'
    rw [hp2] at hv'
    have hh := (ih hq).1 e d x[k] y[k] u' v' he (by omega) ru rv
    rw [List.range'_succ]
    simp only [Op.eqItems, Sem.run_bind, hu', hv', hh, Result.andThen_ok]
    rw [List.drop_eq_getElem_cons hk1, List.drop_eq_getElem_cons hk2, List.zipWith_cons_cons, List.all_cons]
    cases hb : eqT t x[k] y[k] with
    | false => simp
    | true =>
     have := ihm (k + 1) (by omega)
     simpa using this
  have := main n 0 (by omega)
  rw [List.range_eq_range', this]
  rfl
 | sl e t _ => intro h; simp [Ty.eqs] at h
 | hole k => intro h; simp [Ty.eqs] at h
 | pt t _ => intro h; simp [Ty.eqs] at h
 | op t _ => intro h; simp [Ty.eqs] at h
 | pair p q ihp ihq =>
  intro hq
  simp [Ty.eqs] at hq
  have hfl : ∀ (fs : List Field) (off d : Nat) (x y : (Ty.pair p q).D) (xs ys c c' e e' : List Value), (TyPF P (.pair p q)).2 fs off → (Ty.pair p q).dep ≤ d → c.length = off → c'.length = off → (∃ l, xs = c ++ l ++ e ∧ Rep w ok (.pair p q) x l) → (∃ l, ys = c' ++ l ++ e' ∧ Rep w ok (.pair p q) y l) → (Op.eqFields d xs.toArray ys.toArray fs).run P w = .ok (eqT (.pair p q) x y) w := by
   intro fs off d x y xs ys c c' e e' h hd hc hc' hx hy
   obtain ⟨f, r, rfl, h1, h2, h3, h4, h5⟩ := h
   obtain ⟨l, rfl, l1, l2, rfl, r1, r2⟩ := hx
   obtain ⟨l', rfl, l1', l2', rfl, r1', r2'⟩ := hy
   simp only [Ty.dep] at hd
   obtain ⟨u, hu, ru, _⟩ := run_part (P := P) (w := w) f.type h1 (c ++ (l1 ++ l2) ++ e) c l1 (l2 ++ e) (by simp) r1.len r1
   obtain ⟨v, hv, rv, _⟩ := run_part (P := P) (w := w) f.type h1 (c' ++ (l1' ++ l2') ++ e') c' l1' (l2' ++ e') (by simp) r1'.len r1'
   rw [hc, ← h2] at hu
   rw [hc', ← h2] at hv
   have hh := (ihp hq.1).1 f.type d x.1 y.1 u v h1 (by omega) ru rv
   simp only [Op.eqFields, if_pos h4, Sem.run_bind, hu, Result.andThen_ok, hv, hh, ne_eq, Sem.run_ite]
   cases hb : eqT p x.1 y.1 with
   | false => simp [eqT, hb]
   | true =>
    simp only [Bool.not_true, Bool.false_eq_true, if_false]
    rw [(ihq hq.2).2 r (off + p.size) d x.2 y.2 _ _ (c ++ l1) (c' ++ l1') e e' h5 (by omega) (by simp [hc, r1.len]) (by simp [hc', r1'.len]) ⟨l2, by simp, r2⟩ ⟨l2', by simp, r2'⟩]
    simp [eqT, hb]
  refine ⟨fun T d x y u v hT hd hx hy => ?_, hfl⟩
  obtain ⟨d, rfl⟩ : ∃ n, d = n + 1 := ⟨d - 1, by omega⟩
  obtain ⟨⟨fs, hu, f, r, hl, h1, h2, h3, h4, h5, hp⟩, _⟩ := hT
  obtain ⟨c1, hx, e1⟩ := hx
  obtain ⟨c2, hy, e2⟩ := hy
  simp [Ty.isAgg] at e1 e2
  have hfs : P.fieldsOf T = fs := by simp [Program.fieldsOf, hu]
  rw [e1, e2, run_equalIn_struct w d T _ _ (by rw [hfs]; exact hu) hp, hfs]
  exact hfl fs.toList 0 d x y c1 c2 [] [] [] [] ⟨f, r, hl, h1, h2, h3, h4, h5⟩ (by omega) rfl rfl ⟨c1, by simp, hx⟩ ⟨c2, by simp, hy⟩
theorem eqGuard_run (hcx : CxOk P cx) {t : Ty} {T : TypeId} (ht : cx.ty T = some t) (heq : t.eqs = true) {x y : t.D} {u v : Value} (hx : RepV w ok t x u) (hy : RepV w ok t y v) (op : BinOp) (p q : Operand) : (eqGuard op T p q u v).run P w = .ok () w := by
 cases hag : t.isAgg with
 | true =>
  obtain ⟨c1, _, e1⟩ := hx
  obtain ⟨c2, _, e2⟩ := hy
  rw [hag, if_pos rfl] at e1 e2
  rw [e1, e2]
  exact run_eqGuard_agg w op T p q _ _ (hcx.guard T t ht hag)
 | false =>
  cases t <;> simp [Ty.isAgg] at hag
  · rw [hx.int, hy.int]; cases op <;> simp [eqGuard]
  · rw [hx.bool, hy.bool]; cases op <;> simp [eqGuard]
  · rw [hx.str, hy.str]; cases op <;> simp [eqGuard]
  · simp [Ty.eqs] at heq
  · simp [Ty.eqs] at heq
  · simp [Ty.eqs] at heq
  · simp [Ty.eqs] at heq
theorem eqGuard_int (op : BinOp) (T : TypeId) (p q : Operand) (k k' : IntKind) (x y : Int) : (eqGuard op T p q (.int k x) (.int k' y)).run P w = .ok () w := by cases op <;> simp [eqGuard]
theorem eqGuard_str (op : BinOp) (T : TypeId) (p q : Operand) (x y : ByteArray) : (eqGuard op T p q (.string x) (.string y)).run P w = .ok () w := by cases op <;> simp [eqGuard]
theorem binOp_eql_run (T : TypeId) (u v : Value) (hu : ∀ k n, u ≠ .int k n) (hu' : ∀ s, u ≠ .string s) (hs : (∃ b, u = .bool b) ∨ ∃ cs, u = .agg cs) (hs' : (∃ b, v = .bool b) ∨ ∃ cs, v = .agg cs) {b : Bool} (h : (Op.equalIn 10000 T u v).run P w = .ok b w) :
 (binOp .eql T u v).run P w = .ok (.bool b) w ∧ (binOp .neq T u v).run P w = .ok (.bool (!b)) w := by
 rcases hs with ⟨x, rfl⟩ | ⟨x, rfl⟩ <;> rcases hs' with ⟨y, rfl⟩ | ⟨y, rfl⟩ <;>
  exact ⟨by simp only [binOp, Op.equal, Op.maxDepth, Sem.run_bind, h, Result.andThen_ok, Sem.run_pure], by simp only [binOp, Op.equal, Op.maxDepth, Sem.run_bind, h, Result.andThen_ok, Sem.run_pure]⟩
theorem ptrQ_rep {hp : List (Nat × Ob)} {p : AV0} {v : Value} {q : Bool} (hr : RepA0 w ok m hp p v) (h : ptrQ hp p = some q) : ∃ A : Option Addr, v = .pointer A ∧ A.isNone = q := by
 cases p <;> simp only [ptrQ] at h <;> try cases h
 · rename_i id off
   split at h
   · rename_i T t x hf
     cases h
     obtain ⟨b, _, e⟩ := hr _ _ _ hf
     exact ⟨_, e, rfl⟩
   · cases h
 · obtain ⟨a, cs, e, _⟩ := hr
   exact ⟨_, e, rfl⟩
 · exact ⟨none, hr, rfl⟩
theorem nil_eqIn {T e : TypeId} (hu : P.underlying T = some (.pointer e)) (d : Nat) (A B : Option Addr) (h : (A.isNone || B.isNone) = true) : (Op.equalIn (d + 1) T (.pointer A) (.pointer B)).run P w = .ok (A.isNone && B.isNone) w := by
 cases A with
 | none => simp [Op.equalIn, underlying, hu]
 | some a =>
  cases B with
  | none => simp [Op.equalIn, underlying, hu]
  | some b => simp at h
theorem nil_eq {T e : TypeId} (hu : P.underlying T = some (.pointer e)) (A B : Option Addr) (h : (A.isNone || B.isNone) = true) : (Op.equal T (.pointer A) (.pointer B)).run P w = .ok (A.isNone && B.isNone) w := nil_eqIn hu 9999 A B h
theorem op_binOp (h : Here P cx w0 ok0 m ok st a w) {op : BinOp} {T T' : TypeId} {x y : Operand} (ho : o.op = .binOp op T x y T') (hk : aop cx o K st) : o.wp P a w (Nxt w0 ok0 K) Q := by
 unfold aop at hk
 rw [ho] at hk
 simp only at hk
 unfold one at hk
 split at hk
 · rename_i p hp
   have hx := h.r.op cx T x
   rw [hp] at hx
   have hx0 : RepA0 w ok m st.hp p (a.eval x) := hx
   have hx := peek h.r hx0
   split at hk
   · rename_i q hq
     have hy := h.r.op cx (yT op T T') y
     rw [hq] at hy
     have hy0 : RepA0 w ok m st.hp q (a.eval y) := hy
     have hy := peek h.r hy0
     unfold binQ at hk
     split at hk
     · rename_i p1 q1 hp1 hq1
       obtain ⟨hpt, hk⟩ := stat_out hk
       obtain ⟨hn, hk⟩ := stat_out hk
       obtain ⟨e, hu⟩ := h.cx.ptr T hpt
       obtain ⟨A, ex, hA⟩ := ptrQ_rep hx0 hp1
       obtain ⟨B, ey, hB⟩ := ptrQ_rep hy0 hq1
       subst hA hB
       have hg : ∀ op, (eqGuard op T x y (.pointer A) (.pointer B)).run P w = .ok () w := fun op => by cases op <;> simp [eqGuard]
       have he := nil_eq (P := P) (w := w) hu A B hn
       split at hk
       · exact h.val (x := .v (.tv .bool _)) (v := .bool _) RepV.of_bool (by simp only [execOp, ho, ex, ey, Sem.run_bind, hg, Result.andThen_ok, binOp, he, Sem.run_pure]) hk
       · exact h.val (x := .v (.tv .bool _)) (v := .bool _) RepV.of_bool (by simp only [execOp, ho, ex, ey, Sem.run_bind, hg, Result.andThen_ok, binOp, he, Sem.run_pure]) hk
       · exact hk.elim
     clear hx0 hy0
     rename_i hno
     clear hno
     generalize p.ro st.hp = p at hk hx
     generalize q.ro st.hp = q at hk hy
     unfold binA at hk
     split at hk
     · rename_i k n k' n'
       cases hsh : isSh op with
       | true =>
        rw [hsh, cond_true] at hk
        have ex : a.eval x = .int k n := RepV.int hx
        have ey : a.eval y = .int k' n' := RepV.int hy
        obtain ⟨r, v, hj, hr, hv⟩ := sh_run (P := P) (k' := k') (m := m) (ok := ok) (st := st) (T := T) (w := w) hk
        exact h.val (x := .v r) hv (by simp only [execOp, ho, ex, ey, Sem.run_bind, eqGuard_int, Result.andThen_ok, hr, Sem.run_pure]) hj
       | false =>
       rw [hsh, cond_false] at hk
       split at hk
       · rename_i e
         subst e
         have ex : a.eval x = .int k n := RepV.int hx
         have ey : a.eval y = .int k n' := RepV.int hy
         obtain ⟨r, v, hj, hr, hv⟩ := int_run (P := P) (m := m) (ok := ok) (st := st) (T := T) (w := w) hk
         exact h.val (x := .v r) hv (by simp only [execOp, ho, ex, ey, Sem.run_bind, eqGuard_int, Result.andThen_ok, hr, Sem.run_pure]) hj
       · exact hk.elim
     · rename_i s s'
       have ex : a.eval x = .string s := RepV.str hx
       have ey : a.eval y = .string s' := RepV.str hy
       obtain ⟨r, v, hj, hr, hv⟩ := str_run (P := P) (m := m) (ok := ok) (st := st) (T := T) (w := w) hk
       exact h.val (x := .v r) hv (by simp only [execOp, ho, ex, ey, Sem.run_bind, eqGuard_str, Result.andThen_ok, hr, Sem.run_pure]) hj
     · rename_i t1 z1 t2 z2 hn1 hn2
       split at hk
       · rename_i t ht
         obtain ⟨hq, hk⟩ := stat_out hk
         have fin : ∀ {a1 b1 : t.D}, cast? t1 t z1 = some a1 → cast? t2 t z2 = some b1 → (binOp .eql T (a.eval x) (a.eval y)).run P w = .ok (.bool (eqT t a1 b1)) w ∧ (binOp .neq T (a.eval x) (a.eval y)).run P w = .ok (.bool (!(eqT t a1 b1))) w ∧ ∀ op, (eqGuard op T x y (a.eval x) (a.eval y)).run P w = .ok () w := by
          intro a1 b1 c1 c2
          have rx := cast?_repV c1 (show RepV w _ t1 z1 (a.eval x) from hx)
          have ry := cast?_repV c2 (show RepV w _ t2 z2 (a.eval y) from hy)
          have he := (eq_run (P := P) t hq).1 T 10000 a1 b1 _ _ (h.cx.ty T t ht) (h.cx.dep T t ht) rx ry
          have hg := fun op => eqGuard_run h.cx ht hq rx ry op x y
          obtain ⟨e1, -⟩ := cast?_some c1
          obtain ⟨e2, -⟩ := cast?_some c2
          have hs : ∀ {z : t.D} {v : Value}, RepV w (fun _ => True) t z v → (∃ b, v = .bool b) ∨ ∃ cs, v = .agg cs := by
           intro z v r
           cases t with
           | int k => subst e1 e2; exact (hn1 _ _ _ _ rfl HEq.rfl rfl HEq.rfl).elim
           | bool => exact .inl ⟨_, r.bool⟩
           | str => subst e1 e2; exact (hn2 _ _ rfl HEq.rfl rfl HEq.rfl).elim
           | unit => obtain ⟨c, _, e⟩ := r; simp [Ty.isAgg] at e; exact .inr ⟨_, e⟩
           | pair _ _ => obtain ⟨c, _, e⟩ := r; simp [Ty.isAgg] at e; exact .inr ⟨_, e⟩
           | hole _ => simp [Ty.eqs] at hq
           | pt _ => simp [Ty.eqs] at hq
           | op _ => simp [Ty.eqs] at hq
           | arr _ _ => obtain ⟨c, _, e⟩ := r; simp [Ty.isAgg] at e; exact .inr ⟨_, e⟩
           | sl _ _ => simp [Ty.eqs] at hq
          have := binOp_eql_run (P := P) (w := w) T (a.eval x) (a.eval y) (by rcases hs rx with ⟨b, e⟩ | ⟨b, e⟩ <;> simp [e]) (by rcases hs rx with ⟨b, e⟩ | ⟨b, e⟩ <;> simp [e]) (hs rx) (hs ry) he
          exact ⟨this.1, this.2, hg⟩
         split at hk
         · rename_i a1 b1 c1 c2 c3
           obtain ⟨f1, f2, f3⟩ := fin c1 c2
           exact h.val (x := .v (.tv .bool _)) RepV.of_bool (by simp only [execOp, ho, Sem.run_bind, f3, Result.andThen_ok, f1, Sem.run_pure]) hk
         · rename_i a1 b1 c1 c2 c3
           obtain ⟨f1, f2, f3⟩ := fin c1 c2
           exact h.val (x := .v (.tv .bool _)) RepV.of_bool (by simp only [execOp, ho, Sem.run_bind, f3, Result.andThen_ok, f2, Sem.run_pure]) hk
         · exact hk.elim
       · exact hk.elim
     · exact hk.elim
   · exact hk.elim
 · exact hk.elim
end
end Go.Iv
