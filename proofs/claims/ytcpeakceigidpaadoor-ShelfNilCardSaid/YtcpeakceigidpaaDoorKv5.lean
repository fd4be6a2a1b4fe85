/- Operations that leave the world alone, proved against the model. -/
import Derived.Test.YtcpeakceigidpaaDoorKv4
import Derived.WalkKit
import Derived.RangeFuncSeq
set_option linter.all false
namespace Go.Iv
open Go.RowKit
variable [GL]
def Ty.dep : Ty → Nat
 | .pair a b => max (a.dep + 1) b.dep
 | .arr _ t => t.dep + 1
 | _ => 0
structure Inf (P : Program) (T : TypeId) (t : Ty) : Prop where
 out : ∃ i z, P.info? T = some i ∧ i.size = t.size ∧ i.zero = some z ∧ z.cells.toList = t.zcells
def TyPF (P : Program) : Ty → (TypeId → Prop) × (List Field → Nat → Prop)
 | .int k => (fun T => P.underlying T = some (.int k) ∧ Inf P T (.int k), fun _ _ => False)
 | .bool => (fun T => P.underlying T = some .bool ∧ Inf P T .bool, fun _ _ => False)
 | .str => (fun T => P.underlying T = some .string ∧ Inf P T .str, fun _ _ => False)
 | .unit => (fun T => (∃ fs, P.underlying T = some (.struct fs) ∧ fs.toList = [] ∧ P.stoodInHeld T = false) ∧ Inf P T .unit, fun fs _ => fs = [])
 | .pair a b => (fun T => (∃ fs, P.underlying T = some (.struct fs) ∧ ∃ f r, fs.toList = f :: r ∧ (TyPF P a).1 f.type ∧ f.offset = 0 ∧ a.size ≠ 0 ∧ f.name ≠ "_" ∧ (TyPF P b).2 r (0 + a.size) ∧ P.stoodInHeld T = false) ∧ Inf P T (.pair a b),
  fun fs off => ∃ f r, fs = f :: r ∧ (TyPF P a).1 f.type ∧ f.offset = off ∧ a.size ≠ 0 ∧ f.name ≠ "_" ∧ (TyPF P b).2 r (off + a.size))
 | .arr n t => (fun T => (∃ e, P.underlying T = some (.array n e) ∧ (TyPF P t).1 e) ∧ Inf P T (.arr n t), fun _ _ => False)
 | .sl e t => (fun T => P.underlying T = some (.slice e) ∧ (TyPF P t).1 e ∧ Inf P T (.sl e t), fun _ _ => False)
 | .hole k => (fun T => (∃ e, P.underlying T = some (.pointer e) ∨ P.underlying T = some (.slice e)) ∧ Inf P T (.hole k), fun _ _ => False)
 | .pt t => (fun T => (∃ e, P.underlying T = some (.pointer e)) ∧ Inf P T (.pt t), fun _ _ => False)
 | .op t => (fun T => (∃ e, P.underlying T = some (.pointer e)) ∧ Inf P T (.op t), fun _ _ => False)
def TyP (P : Program) (t : Ty) (T : TypeId) : Prop := (TyPF P t).1 T
theorem TyP.inf {P : Program} : ∀ {t : Ty} {T : TypeId}, TyP P t T → Inf P T t
 | .int _, _, h => h.2
 | .bool, _, h => h.2
 | .str, _, h => h.2
 | .unit, _, h => h.2
 | .pair _ _, _, h => h.2
 | .arr _ _, _, h => h.2
 | .sl _ _, _, h => h.2.2
 | .hole _, _, h => h.2
 | .pt _, _, h => h.2
 | .op _, _, h => h.2
theorem TyP.agg {P : Program} : ∀ {t : Ty} {T : TypeId}, TyP P t T → ∃ d, P.underlying T = some d ∧ (t.isAgg = true → (∃ fs, d = .struct fs) ∨ ∃ n e, d = .array n e) ∧ (t.isAgg = false → (∀ fs, d ≠ .struct fs) ∧ ∀ n e, d ≠ .array n e)
 | .int _, _, h => ⟨_, h.1, by simp [Ty.isAgg]⟩
 | .bool, _, h => ⟨_, h.1, by simp [Ty.isAgg]⟩
 | .str, _, h => ⟨_, h.1, by simp [Ty.isAgg]⟩
 | .unit, _, h => by obtain ⟨⟨fs, h, _⟩, _⟩ := h; exact ⟨_, h, by simp [Ty.isAgg]⟩
 | .pair _ _, _, h => by obtain ⟨⟨fs, h, _⟩, _⟩ := h; exact ⟨_, h, by simp [Ty.isAgg]⟩
 | .arr _ _, _, h => by obtain ⟨⟨fs, h, _⟩, _⟩ := h; exact ⟨_, h, by simp [Ty.isAgg]⟩
 | .sl _ _, _, h => ⟨_, h.1, by simp [Ty.isAgg]⟩
 | .hole _, _, h => by
  obtain ⟨⟨e, h⟩, _⟩ := h
  rcases h with h | h
  · exact ⟨_, h, by simp [Ty.isAgg]⟩
  · exact ⟨_, h, by simp [Ty.isAgg]⟩
 | .pt _, _, h => by
  obtain ⟨⟨e, h⟩, _⟩ := h
  exact ⟨_, h, by simp [Ty.isAgg]⟩
 | .op _, _, h => by
  obtain ⟨⟨e, h⟩, _⟩ := h
  exact ⟨_, h, by simp [Ty.isAgg]⟩
def tupV : List Value → Value
 | [u] => u
 | us => .tuple us.toArray
def FnOK (P : Program) (n : FuncId) (F : List AV0 → (List AV0 → Prop) → Prop) : Prop :=
 ∀ (args : List AV0) (J : List AV0 → Prop), F args J → ∀ (w : World) (ok : Nat → Prop) (vals : List Value), GloW w (fun _ => False) → (∀ b, ok b → b < w.heap.size) → vals.length = args.length → (∀ (i : Nat) (x : AV0), args[i]? = some x → ∃ v, vals[i]? = some v ∧ ∀ hp m, RepA0 w ok m hp x v) →
  Calls P n vals.toArray w fun e w' => ∃ (res : List AV0) (us : List Value) (v : Value) (okr : Nat → Prop), J res ∧ e = .returned v ∧ Below w.heap.size w w' ∧ us.length = res.length ∧ v = tupV us ∧
   (∀ b, okr b → ok b ∨ (w.heap.size ≤ b ∧ b < w'.heap.size)) ∧ (∀ (i : Nat) (x : AV0), res[i]? = some x → ∃ u, us[i]? = some u ∧ ∀ hp m, RepA0 w' okr m hp x u) ∧
   ∀ (i : Nat) (e : TypeId) (t : Ty) (xs : List t.D) (u : Value), res[i]? = some (.own e t xs) → us[i]? = some u → ∃ inner, w'.ownsRow 0 e t.size u xs.length inner ∧ RepL (Rep w' okr t) xs inner ∧ ∀ b, blk u = some b → ¬ okr b ∧ w.heap.size ≤ b
def RowOK (P : Program) (f : FuncId) (k : RowF) (e : TypeId) : Prop := (∃ fn, P.funcs[f]? = some fn ∧ (fn.name == "runtime.NumGoroutine") = false ∧ fn.body.isSome = true) ∧ ∀ i, P.info? e = some i → match k with
 | .clone => ∀ (w : World) (A : Option Addr) (n c : Nat) (news : List Value), news.length = n * i.size → (A = none ∧ n = 0 ∨ ∃ ad, A = some ad ∧ ∀ (j : Nat) (u : Value), news[j]? = some u → w.cell? (ad.add j) = some u) → (∀ u ∈ news, u.oneCell' = true) →
  n ≤ maxLen → n * i.bytes ≤ 140737488355328 → Calls P f #[.slice A n c] w fun ex w' => ∃ v', ex = .returned v' ∧ w'.ownsRow 0 e i.size v' n news ∧ w.grownBy w' none ∧ ∀ b, blk v' = some b → w.heap.size ≤ b
 | .insert => ∀ (w : World) (v u : Value) (n j : Nat) (inner x : List Value), w.ownsRow 0 e i.size v n inner → w.ownsRow 0 e i.size u 1 x → (∀ b, blk v = some b → blk u ≠ some b) → (∀ u ∈ inner, u.oneCell' = true) → (∀ u ∈ x, u.oneCell' = true) → j ≤ n →
  n + 1 ≤ 9223372036854775800 → (n + 1) * i.bytes ≤ 140737488355328 → Calls P f #[v, .int .i64 j, u] w fun ex w' => ∃ v', ex = .returned v' ∧ w'.ownsRow 0 e i.size v' (n + 1) (inner.take (j * i.size) ++ x ++ inner.drop (j * i.size)) ∧ w.grownBy w' v.ownBlock ∧ ∀ b, blk v' = some b → blk v = some b ∨ w.heap.size ≤ b
 | .delete => ∀ (w : World) (v : Value) (n j : Nat) (inner : List Value), w.ownsRow 0 e i.size v n inner → (∀ u ∈ inner, u.oneCell' = true) → j < n →
  Calls P f #[v, .int .i64 j, .int .i64 ((j : Int) + 1)] w fun ex w' => ∃ v', ex = .returned v' ∧ w'.ownsRow 0 e i.size v' (n - 1) (inner.take (j * i.size) ++ inner.drop ((j + 1) * i.size)) ∧ w.grownBy w' v.ownBlock ∧ ∀ b, blk v' = some b → blk v = some b ∨ w.heap.size ≤ b
def RelE (w0 : Bas) (ok0 : Nat → Prop) (st : St) (a : Act) (w : World) : Prop := ∃ m ok, Rel w0 m ok st a w ∧ ∀ b, ok b → ok0 b ∨ w0.fr b
def entX (k : Sk) (m : Nat → Value) (b : Nat) : Prop := ∃ c, inL c (k.hp.map (·.1)) = true ∧ blk (m c) = some b
def entB (k : Sk) (m : Nat → Value) (w : World) (g : GloW w (entX k m)) : Bas := ⟨w, entX k m, fun c => bif pinS k c then some (m c) else none, g⟩
theorem entB_pin {k : Sk} {m : Nat → Value} {w : World} {g : GloW w (entX k m)} {c : Nat} {v : Value} (h : (entB k m w g).pin c = some v) : pinS k c = true ∧ m c = v := by
 have h : (bif pinS k c then some (m c) else none) = some v := h
 cases hp : pinS k c with
 | true => rw [hp] at h; exact ⟨rfl, Option.some.inj h⟩
 | false => rw [hp] at h; cases h
theorem pin_of {k : Sk} {m : Nat → Value} {w : World} {g : GloW w (entX k m)} {c : Nat} (h : pinS k c = true) : (entB k m w g).pin c = some (m c) := by
 show (bif pinS k c then some (m c) else none) = _
 rw [h]; rfl
theorem pinS_lk {k : Sk} {c : Nat} (h : pinS k c = true) : ∃ o, lkO c k.hp = some o := by
 unfold pinS at h
 split at h
 · rename_i h1; exact ⟨_, h1⟩
 · rename_i h1; exact ⟨_, h1⟩
 · cases h
def actOf (vals : List Value) : Act := { tmps := vals.toArray, defers := [] }
def FnS (P : Program) (f : FuncId) (S : SFn) : Prop := ∀ (x : S.inn.D) (J : (i : Nat) → (S.out i).D → Prop), S.F x J → ∀ (w : World) (m : Nat → Value) (ok : Nat → Prop) (vals : List Value) (g : GloW w (entX S.inn m)), Rel (entB S.inn m w g) m ok (S.inn.mk' x) (actOf vals) w →
 Calls P f vals.toArray w fun e w' => ∃ (i : Nat) (y : (S.out i).D) (us : List Value), J i y ∧ e = .returned (tupV us) ∧ us.length = (S.out i).n ∧ RelE (entB S.inn m w g) ok ((S.out i).mk' y) (actOf us) w'
structure SOK (P : Program) (f : FuncId) (S : SFn) : Prop where
 fn : ∃ fn, P.funcs[f]? = some fn ∧ (fn.name == "runtime.NumGoroutine") = false ∧ fn.body.isSome = true
 ok : FnS P f S
 det : ∀ x J, S.F x J → ∃ i y, J i y ∧ FnS P f ⟨S.inn, S.out, fun x' J' => x' = x ∧ J' i y⟩
def ItG (P : Program) (f : FuncId) (lb : Array Value) (xs : List (Array Value)) (okS : Nat → Prop) (w : World) : Prop :=
 ∀ (n l : Nat) (J Jx : Nat → World → Prop) (W : World), w.heap.size ≤ W.heap.size → (∀ b, okS b → W.heap[b]? = w.heap[b]?) →
  (∀ k A B, J k A → Below A.heap.size A B → J k B) → (∀ k A B, Jx k A → Below A.heap.size A B → Jx k B) →
  (∀ (k : Nat) (A : World) (hk : k < xs.length), J k A → YieldAt Fence.wide n P l xs[k] A fun e B =>
   (e = .returned (.bool true) ∧ J (k + 1) B ∧ ∀ b, okS b → B.heap[b]? = A.heap[b]?) ∨ (e = .returned (.bool false) ∧ Jx (k + 1) B)) →
  J 0 W → CallsIn Fence.wide (n + 1) P f (#[.func (.yield l) #[] #[]] ++ lb) W fun e B => (∃ v, e = .returned v) ∧ (J xs.length B ∨ ∃ k, Jx k B)
def RepIt (w : World) (ok : Nat → Prop) (l : List AV0) (x : Array Value) : Prop := x.size = l.length ∧ ∀ (i : Nat) (y : AV0), l[i]? = some y → ∃ v, x[i]? = some v ∧ ∀ hp m, RepA0 w ok m hp y v
structure ItOK (P : Program) (f : FuncId) (It : ItF) : Prop where
 fn : ∃ fn, P.funcs[f]? = some fn ∧ (fn.name == "runtime.NumGoroutine") = false ∧ fn.body.isSome = true
 run : ∀ (x : It.t.D) (w : World) (ok : Nat → Prop) (u : Value), (∀ b, ok b → b < w.heap.size) → RepP w ok It.t x u →
  ∃ xs : List (Array Value), xs.length = (It.L x).length ∧ (∀ (k : Nat) (y : itD It.E) (v : Array Value), (It.L x)[k]? = some y → xs[k]? = some v → RepIt w ok (itA It.E y) v) ∧ ItG P f #[u] xs ok w
structure CxOk (P : Program) (cx : Cx) : Prop where
 ty : ∀ T t, cx.ty T = some t → TyP P t T
 bytes : ∀ T e t, cx.ty T = some (.sl e t) → t.size ≠ 0 ∧ ∀ i, P.info? e = some i → i.bytes = cx.bytes e
 mixed : P.follows .mixedOrders = true
 guard : ∀ T t, cx.ty T = some t → t.isAgg = true → P.eqGuardType P.depth T = false
 dep : ∀ T t, cx.ty T = some t → t.dep < 10000
 np : ∀ T t, cx.ty T = some t → t.np = true
 rty : ∀ T t, cx.rty T = some t → TyP P t T
 fns : ∀ f args J, cx.call f args J → ∃ fn, P.funcs[f]? = some fn ∧ (fn.name == "runtime.NumGoroutine") = false ∧ fn.body.isSome = true
 fnok : ∀ f, FnOK P f (cx.call f)
 det : ∀ f args J, cx.call f args J → ∃ res, J res ∧ FnOK P f (fun a J' => a = args ∧ J' res)
 rowf : ∀ f k e, cx.rowf f = some (k, e) → RowOK P f k e
 glb : ∀ g (p : (t : Ty) × List t.D), cx.glb g = some p → p.1.size = 1 → ∃ cs, (g, cs) ∈ GL.gl ∧ ∀ w ok, RepL (Rep w ok p.1) p.2 cs
 ptr : ∀ T, cx.ptrT T = true → ∃ e, P.underlying T = some (.pointer e)
 ptrS : ∀ T, cx.ptrT T = true → ∃ i, P.info? T = some i ∧ i.size = 1
 sfn : ∀ f S, cx.scall f = some S → SOK P f S
 it : ∀ f It, cx.it f = some It → ItOK P f It
def Nxt (w0 : Bas) (ok0 : Nat → Prop) (K : St → Prop) (a : Act) (w : World) : Prop := ∃ st, K st ∧ RelE w0 ok0 st a w
section
variable {P : Program} {cx : Cx} {w0 : Bas} {w : World} {ok0 ok : Nat → Prop} {m : Nat → Value} {st : St} {a : Act} {o : Oper} {K : St → Prop} {Q : Exit → Act → World → Prop}
theorem wp_val {next : Act → World → Prop} {v : Value} {w' : World} (h : (execOp a.eval o).run P w = .ok (.value v) w') (k : next (a.put o.dst v) w') : o.wp P a w next Q := by
 unfold Oper.wp; rw [h]; exact k
theorem wp_skp {next : Act → World → Prop} {w' : World} (h : (execOp a.eval o).run P w = .ok .skip w') (k : next (a.put o.dst undef) w') : o.wp P a w next Q := by
 unfold Oper.wp; rw [h]; exact k
theorem rdc_rep {ok : Nat → Prop} : ∀ {t : Ty} {cs r : List Value} {x : t.D}, rdc t cs = some (x, r) → ∃ c, cs = c ++ r ∧ Rep w ok t x c := by
 intro t
 induction t with
 | int k =>
  intro cs r x h
  simp only [rdc] at h
  unfold rdInt at h
  split at h
  · split at h
    · rename_i e; subst e; cases h; exact ⟨[_], rfl, rfl⟩
    · cases h
  · cases h
 | bool =>
  intro cs r x h
  simp only [rdc] at h
  unfold rdBool at h
  split at h
  · cases h; exact ⟨[_], rfl, rfl⟩
  · cases h
 | str =>
  intro cs r x h
  simp only [rdc] at h
  unfold rdStr at h
  split at h
  · cases h; exact ⟨[_], rfl, rfl⟩
  · cases h
 | unit => intro cs r x h; simp [rdc] at h; subst h; exact ⟨[], rfl, rfl⟩
 | pair a b iha ihb =>
  intro cs r x h
  simp only [rdc] at h
  cases h1 : rdc a cs with
  | none => rw [h1] at h; cases h
  | some y =>
   rw [h1] at h
   cases h2 : rdc b y.2 with
   | none => simp only [h2] at h; cases h
   | some z =>
    simp only [h2] at h
    simp at h
    obtain ⟨rfl, rfl⟩ := h
    obtain ⟨c1, e1, r1⟩ := iha (x := y.1) (r := y.2) h1
    obtain ⟨c2, e2, r2⟩ := ihb (x := z.1) (r := z.2) h2
    exact ⟨c1 ++ c2, by rw [e1, e2]; simp, c1, c2, rfl, r1, r2⟩
 | arr n t _ => intro cs r x h; simp [rdc] at h
 | sl e t _ =>
  intro cs r x h
  simp only [rdc] at h
  unfold rdNil at h
  split at h
  · cases h; exact ⟨[_], rfl, none, 0, [], rfl, Nat.le_refl _, .inl rfl, rfl⟩
  · cases h
 | hole k => intro cs r x h; simp [rdc] at h
 | pt t _ => intro cs r x h; simp [rdc] at h
 | op t _ =>
  intro cs r x h
  simp only [rdc] at h
  unfold rdNilP at h
  split at h
  · cases h; exact ⟨[_], rfl, rfl⟩
  · cases h
theorem rdv_rep {t : Ty} {v : Value} {x : t.D} (h : rdv t v = some x) : RepV w ok t x v := by
 unfold rdv at h
 cases ht : t.isAgg with
 | true =>
  rw [ht] at h
  cases v <;> simp at h
  rename_i cs
  split at h <;> simp at h
  subst h
  rename_i y hr
  obtain ⟨c, e, r⟩ := rdc_rep (w := w) (ok := ok) hr
  refine ⟨c, r, ?_⟩
  rw [ht, if_pos rfl]
  simp at e; rw [← e]
 | false =>
  rw [ht] at h
  simp only at h
  split at h <;> simp at h
  subst h
  rename_i y hr
  obtain ⟨c, e, r⟩ := rdc_rep (w := w) (ok := ok) hr
  refine ⟨c, r, ?_⟩
  rw [ht, if_neg (by simp)]
  simp at e; exact e.symm
theorem cst_rep {T : TypeId} {v : Value} {hp : List (Nat × Ob)} : RepA0 w ok m hp (cst cx T v) v := by
 unfold cst
 split
 · split
   · rename_i h; exact rdv_rep h
   · trivial
 · split
   · exact ⟨[_], rfl, by simp [Ty.isAgg]⟩
   · exact ⟨[_], rfl, by simp [Ty.isAgg]⟩
   · rfl
   · trivial
theorem cstT_rep {t : Ty} {v : Value} {hp : List (Nat × Ob)} : RepA0 w ok m hp (cstT t v) v := by
 unfold cstT
 split
 · rename_i h; exact rdv_rep h
 · trivial
theorem Rel.op (r : Rel w0 m ok st a w) (cx : Cx) (T : TypeId) (x : Operand) : RepA w ok m st.hp (opA cx st T x) (a.eval x) := by
 cases x with
 | tmp t => exact r.env t
 | const v => exact cst_rep
 | global g => trivial
 | func f => rfl
theorem Rel.opT (r : Rel w0 m ok st a w) (t : Ty) (x : Operand) : RepA w ok m st.hp (opT st t x) (a.eval x) := by
 cases x with
 | tmp t => exact r.env t
 | const v => exact cstT_rep
 | global g => trivial
 | func f => rfl
theorem ro_rep (r : Rel w0 m ok st a w) {ok' : Nat → Prop} {hp' : List (Nat × Ob)} (h1 : ∀ b, ok b → ok' b) (h3 : ∀ id o, fnd id hp' = some o → fnd id st.hp = some o) : ∀ {x : AV0} {v : Value},
 (∀ d, d ∈ x.ids → ∀ o, fnd d st.hp = some o → ∀ b, blk (m d) = some b → ok' b) → RepA0 w ok m st.hp x v → RepA0 w ok' m hp' (x.ro st.hp) v
 | .tv _ _, _, _, h => RepA0.ok_ (hp := st.hp) (m := m) h1 h
 | .rptr t x, v, _, h => RepA0.ok_ (ok := ok) (ok' := ok') (m := m) (hp := st.hp) (x := .rptr t x) h1 h
 | .fn _, _, _, h => h
 | .own _ _ _, _, _, _ => trivial
 | .un, _, _, _ => trivial
 | .nilp, _, _, h => h
 | .bel id o i f n t, v, _, h => fun T bt x hf => h T bt x (h3 _ _ hf)
 | .wbx id o n e t, v, _, h => fun T bt x hf => h T bt x (h3 _ _ hf)
 | .clo f t x, v, _, h => RepA0.ok_ (ok := ok) (ok' := ok') (m := m) (hp := st.hp) (x := .clo f t x) h1 h
 | .glb _, _, _, h => h
 | .gel _ _, _, _, h => h
 | .sub id lo n, v, _, h => fun e t xs hf => h e t xs (h3 _ _ hf)
 | .str t x rs, v, _, h => RepA0.hp (a := .str t x rs) (fun id _ => ⟨rfl, fun o ho => ⟨o, h3 _ _ ho, fun e t xs e1 => ⟨xs, e1⟩, fun T t x e1 => ⟨x, e1⟩⟩⟩) (RepA0.ok_ (ok := ok) (ok' := ok') (m := m) (hp := st.hp) (x := .str t x rs) h1 h)
 | .ptr id off, v, _, h => fun T t x hf => h T t x (h3 _ _ hf)
 | .elt id i off, v, _, h => fun e t xs hf => h e t xs (h3 _ _ hf)
 | .row id, v, h2, h => by
  simp only [AV0.ro]
  split
  · rename_i e t xs hf
    obtain rfl := h e t xs hf
    obtain ⟨cs, hr, hv⟩ := row_reads (r.ob id _ hf)
    exact ⟨cs, hr.move (fun _ _ => rfl) (fun b hb => hb.elim (h1 b) (h2 id (by simp [AV0.ids]) _ hf b)), hv⟩
  · trivial
theorem roV_rep (r : Rel w0 m ok st a w) {ok' : Nat → Prop} {hp' : List (Nat × Ob)} (h1 : ∀ b, ok b → ok' b) (h3 : ∀ id o, fnd id hp' = some o → fnd id st.hp = some o) : ∀ {x : AV} {v : Value},
 (∀ d, d ∈ x.ids → ∀ o, fnd d st.hp = some o → ∀ b, blk (m d) = some b → ok' b) → RepA w ok m st.hp x v → RepA0 w ok' m hp' (x.ro st.hp) v
 | .v _, _, h2, h => ro_rep r h1 h3 h2 h
 | .tup _, _, _, _ => trivial
theorem peek (r : Rel w0 m ok st a w) {x : AV0} {v : Value} (h : RepA0 w ok m st.hp x v) : RepA0 w (fun _ => True) m st.hp (x.ro st.hp) v := ro_rep r (fun _ _ => trivial) (fun _ _ h => h) (fun _ _ _ _ _ _ => trivial) h
theorem RepV.int {k : IntKind} {n : Int} {v : Value} (h : RepV w ok (.int k) n v) : v = .int k n := by
 obtain ⟨cs, h, e⟩ := h; simp [Ty.isAgg] at e; subst e; simpa [Rep] using h
theorem RepV.bool {b : Bool} {v : Value} (h : RepV w ok .bool b v) : v = .bool b := by
 obtain ⟨cs, h, e⟩ := h; simp [Ty.isAgg] at e; subst e; simpa [Rep] using h
theorem RepV.str {b : ByteArray} {v : Value} (h : RepV w ok .str b v) : v = .string b := by
 obtain ⟨cs, h, e⟩ := h; simp [Ty.isAgg] at e; subst e; simpa [Rep] using h
theorem RepV.of_int {k : IntKind} {n : Int} : RepV w ok (.int k) n (.int k n) := ⟨[_], rfl, by simp [Ty.isAgg]⟩
theorem RepV.of_bool {b : Bool} : RepV w ok .bool b (.bool b) := ⟨[_], rfl, by simp [Ty.isAgg]⟩
theorem RepV.of_str {b : ByteArray} : RepV w ok .str b (.string b) := ⟨[_], rfl, by simp [Ty.isAgg]⟩
theorem RepV.sl {e : TypeId} {t : Ty} {xs : List t.D} {v : Value} (h : RepV w ok (.sl e t) xs v) : ∃ A c inner, v = .slice A xs.length c ∧ xs.length ≤ c ∧
 (xs = [] ∨ ∃ a : Addr, A = some a ∧ ok a.block ∧ ∀ (j : Nat) (u : Value), inner[j]? = some u → w.cell? (a.add j) = some u) ∧ RepL (Rep w ok t) xs inner := by
 obtain ⟨cs, ⟨A, c, inner, e1, h1, h2, h3⟩, e⟩ := h
 simp [Ty.isAgg] at e; rw [e] at e1; simp at e1
 exact ⟨A, c, inner, e1, h1, h2, h3⟩
theorem RepV.of_sl {e : TypeId} {t : Ty} {xs : List t.D} {A : Option Addr} {c : Nat} {inner : List Value} (h1 : xs.length ≤ c)
 (h2 : xs = [] ∨ ∃ a : Addr, A = some a ∧ ok a.block ∧ ∀ (j : Nat) (u : Value), inner[j]? = some u → w.cell? (a.add j) = some u) (h3 : RepL (Rep w ok t) xs inner) : RepV w ok (.sl e t) xs (.slice A xs.length c) :=
 ⟨[_], ⟨A, c, inner, rfl, h1, h2, h3⟩, by simp [Ty.isAgg]⟩
theorem RepV.flat {w' : World} {ok' : Nat → Prop} {t : Ty} {x : t.D} {v : Value} (hf : t.flat = true) (h : RepV w ok t x v) : RepV w' ok' t x v := by
 obtain ⟨cs, h, e⟩ := h; exact ⟨cs, h.flat_move hf, e⟩
theorem cast?_repV {t t' : Ty} {x : t.D} {y : t'.D} {v : Value} (h : cast? t t' x = some y) (r : RepV w ok t x v) : RepV w ok t' y v := by
 obtain ⟨rfl, rfl⟩ := cast?_some h
 exact r
end
end Go.Iv
