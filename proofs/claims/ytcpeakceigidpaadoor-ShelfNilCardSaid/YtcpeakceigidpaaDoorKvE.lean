/- The abstract machine is sound: what holds of it holds of the model's runs. -/
import Derived.Test.YtcpeakceigidpaaDoorKvD
set_option linter.all false
namespace Go.Iv
open Go.RowKit
variable [GL]
section
variable {P : Program} {cx : Cx} {w0 : Bas} {w : World} {ok0 ok : Nat → Prop} {m : Nat → Value} {st : St} {a : Act} {o : Oper} {K : St → Prop} {Q : Exit → Act → World → Prop}
theorem aop_sound (h : Here P cx w0 ok0 m ok st a w) (hk : aop cx o K st) : o.wp P a w (Nxt w0 ok0 K) Q := by
 cases ho : o.op with
 | move x => exact op_move h ho (by unfold aop at hk; rw [ho] at hk; exact hk)
 | assign x => exact op_assign h ho hk
 | pick c x y => exact op_pick h ho hk
 | alloc T => exact op_alloc h ho hk
 | box T x => exact op_box h ho hk
 | build T parts => exact op_build h ho hk
 | buildSlice T n parts => exact op_buildSlice h ho hk
 | load T x => exact op_load h ho hk
 | store T x y => exact op_store h ho hk
 | nilCheck x => exact op_nilCheck h ho hk
 | binOp op T x y T' => exact op_binOp h ho hk
 | unOp op T x => exact op_unOp h ho hk
 | convert S T x => exact op_convert h ho hk
 | makeSlice T l c => exact op_makeSlice h ho hk
 | slice T x lo hi mx =>
  cases mx with
  | none => exact op_slice h ho hk
  | some _ => unfold aop at hk; rw [ho] at hk; exact hk.elim
 | fieldAddr S x f => exact op_fieldAddr h ho hk
 | field S x f => exact op_field h ho hk
 | indexAddr T x i => exact op_indexAddr h ho hk
 | index T x i => exact op_index h ho hk
 | extract x i => exact op_extract h ho hk
 | makeFunc fn first captured => exact op_makeFunc h ho hk
 | call c =>
  cases hc : c.callee with
  | value f => exact op_call h ho hc hk
  | invoke r mm => unfold aop at hk; rw [ho] at hk; simp only [hc] at hk
  | builtin b =>
   cases b with
   | len => exact op_len h ho hc hk
   | append => exact op_append h ho hc hk
   | copy => exact op_copy h ho hc hk
   | max => exact op_max h ho hc hk
   | min => exact op_min h ho hc hk
   | _ => unfold aop at hk; rw [ho] at hk; simp only [hc] at hk
 | _ => unfold aop at hk; rw [ho] at hk; exact hk.elim
theorem Oper.wp_mono' {next next' : Act → World → Prop} (hn : ∀ a w, next a w → next' a w) (h : o.wp P a w next (fun _ _ _ => False)) : o.wp P a w next' Q := by
 unfold Oper.wp Oper.upon at h ⊢
 revert h
 generalize (execOp a.eval o).run P w = r
 cases r with
 | ok n w' =>
  cases n with
  | value v => exact hn _ _
  | skip => exact hn _ _
  | defer d => exact hn _ _
  | enter f args => exact fun h => h.mono (fun e w'' he => by
   cases e with
   | returned v => exact hn _ _ he
   | panicked ch => exact he.elim
   | outgrown => exact he.elim fun _ h => h.elim fun _ h => h.elim)
  | row r args => exact fun h => h.mono (fun v w'' he => hn _ _ he)
  | _ => exact fun h => h.elim
 | halt hh w' =>
  cases hh <;> exact fun h => h.elim
theorem Here.split (h : Here P cx w0 ok0 m ok st a w) {t : Tmp} {b : Bool} (ht : st.get t = .v (.tv .bool b)) (b' : Bool) (hb : b = b') : Here P cx w0 ok0 m ok (st.put (some t) (.v (.tv .bool b'))) a w := by
 subst hb
 have e := h.r.env t
 rw [ht] at e
 have hp := h.r.put (x := .v (.tv .bool b)) (v := a.tmps.getD t undef) e (some t)
 have : a.put (some t) (a.tmps.getD t undef) = a := by
  have hh : a.tmps.setIfInBounds t (a.tmps.getD t undef) = a.tmps := by
   apply Array.ext
   · simp
   · intro i h1 h2
     by_cases e : t = i
     · subst e; simp [Array.getD_eq_getD_getElem?, h2]
     · have := Array.getElem?_setIfInBounds_ne (xs := a.tmps) (a := a.tmps.getD t undef) e
       rw [Array.getElem?_eq_getElem h1, Array.getElem?_eq_getElem h2] at this
       exact Option.some.inj this
  show ({ a with tmps := a.tmps.setIfInBounds t (a.tmps.getD t undef) } : Act) = a
  rw [hh]
 rw [this] at hp
 exact ⟨h.cx, hp, h.f⟩
theorem br_cases {b : Bool} {x y : Prop} (h : br b x y) : (b = true ∧ x) ∨ (b = false ∧ y) := by cases b <;> simp_all [br]
theorem rep_skip {hp : List (Nat × Ob)} : RepA w ok m hp (.tup []) undef := ⟨[], rfl, rfl, fun i a h => by simp at h⟩
theorem yielded_skip {ops : Array Oper} {j : Nat} {t : Tmp} (r : Rel w0 m ok st a w) (ht : (ops[j]?).bind (·.dst) = some t) (hb : st.get t = .tup []) : yielded ops a.tmps j = none := by
 have hx := r.env t
 rw [hb] at hx
 obtain ⟨us, e, hl, _⟩ := hx
 have : us = [] := List.eq_nil_of_length_eq_zero hl
 subst this
 unfold yielded
 rw [ht, Option.bind_some]
 cases h : a.tmps[t]? with
 | none => rfl
 | some v =>
  have : a.tmps.getD t undef = v := by simp [Array.getD_eq_getD_getElem?, h]
  rw [this] at e
  subst e
  rfl
end
end Go.Iv
