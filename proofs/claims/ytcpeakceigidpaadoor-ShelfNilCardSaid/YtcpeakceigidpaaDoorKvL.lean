/- What an operation comes to is one thing; and it is the same wherever the operation finds the same. -/
import Derived.Test.YtcpeakceigidpaaDoorKvE
import Derived.Orders
set_option linter.all false
namespace Go.Iv
open Go.RowKit
variable [GL]
section
variable {w0 : Bas} {w : World} {ok0 ok : Nat → Prop} {m : Nat → Value} {st : St} {a : Act}
def Ent (st st1 : St) : Prop := ∀ (w0 : Bas) (ok0 : Nat → Prop) (a : Act) (w : World), RelE w0 ok0 st a w → RelE w0 ok0 st1 a w
theorem Ent.refl (st : St) : Ent st st := fun _ _ _ _ h => h
theorem Ent.trans {s1 s2 s3 : St} (h : Ent s1 s2) (k : Ent s2 s3) : Ent s1 s3 := fun _ _ _ _ r => k _ _ _ _ (h _ _ _ _ r)
theorem Weak.ent {st1 : St} (hw : Weak st1 st) : Ent st st1 := fun w0 ok0 a w ⟨m, ok, r, f⟩ => ⟨m, ok, Weak.rel r hw, f⟩
end
structure Sim (s s2 : St) : Prop where
 len : s.n = s2.n
 get : ∀ t, s.get t = s2.get t
 hp : ∀ id, fnd id s.hp = fnd id s2.hp
 rf : ∀ id off, fndR id off s.rf = fndR id off s2.rf
theorem Sim.refl (s : St) : Sim s s := ⟨rfl, fun _ => rfl, fun _ => rfl, fun _ _ => rfl⟩
theorem Sim.trans {a b c : St} (h : Sim a b) (k : Sim b c) : Sim a c := ⟨h.len.trans k.len, fun t => (h.get t).trans (k.get t), fun i => (h.hp i).trans (k.hp i), fun i o => (h.rf i o).trans (k.rf i o)⟩
theorem Sim.ent {s s2 : St} (h : Sim s s2) : Ent s s2 := Weak.ent ⟨h.len.symm, fun t => .inr (h.get t).symm, fun i o hf => by rw [h.hp]; exact hf, fun i o => .inr (h.rf i o).symm⟩
def DetK {α : Type} (F : (α → Prop) → Prop) : Prop := ∀ K, F K → ∃ v, K v ∧ ∀ K' : α → Prop, K' v → F K'
theorem DetK.nil {α : Type} : DetK (fun _ : α → Prop => False) := fun _ h => h.elim
theorem DetK.one {α : Type} (v : α) : DetK (fun K : α → Prop => K v) := fun _ h => ⟨v, h, fun _ h => h⟩
theorem DetK.and {α : Type} {c : Prop} {F : (α → Prop) → Prop} (h : DetK F) : DetK (fun K => c ∧ F K) := fun K hk => by
 obtain ⟨v, h1, h2⟩ := h K hk.2
 exact ⟨v, h1, fun K' h' => ⟨hk.1, h2 K' h'⟩⟩
theorem DetK.stat {α : Type} {c : Bool} {F : (α → Prop) → Prop} (h : DetK F) : DetK (fun K => stat c (F K)) := by
 cases c
 · exact DetK.nil
 · exact h
theorem DetK.bind {α β : Type} {F : (α → Prop) → Prop} {G : α → (β → Prop) → Prop} (h : DetK F) (hg : ∀ v, DetK (G v)) : DetK (fun K => F (fun v => G v K)) := fun K hk => by
 obtain ⟨v, h1, h2⟩ := h _ hk
 obtain ⟨u, h3, h4⟩ := hg v K h1
 exact ⟨u, h3, fun K' h' => h2 _ (h4 K' h')⟩
theorem DetK.br {α : Type} {b : Bool} {F G : (α → Prop) → Prop} (h : DetK F) (h' : DetK G) : DetK (fun K => br b (F K) (G K)) := by
 cases b
 · exact h'
 · exact h
theorem DetK.ite {α : Type} {p : Prop} [Decidable p] {F G : (α → Prop) → Prop} (h : DetK F) (h' : DetK G) : DetK (fun K => if p then F K else G K) := by
 by_cases hp : p
 · simpa only [hp, if_true] using h
 · simpa only [hp, if_false] using h'
theorem DetK.cond {α : Type} {p : Bool} {F G : (α → Prop) → Prop} (h : DetK F) (h' : DetK G) : DetK (fun K => bif p then F K else G K) := by
 cases p
 · exact h'
 · exact h
theorem det_intOp {op : BinOp} {k : IntKind} {x y : Int} : DetK (intOp op k x y) := by
 cases op <;> first | exact DetK.nil | exact DetK.one _ | exact DetK.and (DetK.one _)
theorem det_shOp {op : BinOp} {k : IntKind} {x y : Int} : DetK (shOp op k x y) := by
 cases op <;> first | exact DetK.nil | exact DetK.one _ | exact DetK.and (DetK.one _)
theorem det_strOp {op : BinOp} {x y : ByteArray} : DetK (strOp op x y) := by
 cases op <;> first | exact DetK.nil | exact DetK.one _ | exact DetK.and (DetK.one _)
theorem det_one {β : Type} {a : AV} {F : AV0 → (β → Prop) → Prop} (h : ∀ x, DetK (F x)) : DetK (fun K => one a (fun x => F x K)) := by
 cases a with
 | v a => exact h a
 | tup l => exact DetK.nil
theorem det_binA {cx : Cx} {T : TypeId} {op : BinOp} {x y : AV0} : DetK (binA cx T op x y) := by
 intro K h
 unfold binA at h ⊢
 split at h
 · rename_i k a k' b
   revert h K
   exact DetK.cond det_shOp (DetK.ite det_intOp DetK.nil)
 · rename_i a b
   exact det_strOp K h
 · rename_i t1 a t2 b n1 n2
   split at h
   · rename_i t ht
     obtain ⟨he, h⟩ := stat_out h
     split at h
     · exact ⟨_, h, fun K' hk => by rw [he]; exact hk⟩
     · exact ⟨_, h, fun K' hk => by rw [he]; exact hk⟩
     · exact h.elim
   · exact h.elim
 · exact h.elim
theorem det_unA {op : UnOp} {x : AV0} : DetK (unA op x) := by
 intro K h
 unfold unA at h
 split at h
 · exact ⟨_, h, fun _ h => h⟩
 · exact ⟨_, h, fun _ h => h⟩
 · exact ⟨_, h, fun _ h => h⟩
 · exact h.elim
theorem det_refA {st : St} {id off : Nat} : DetK (refA st id off) := by
 intro K h
 unfold refA at h ⊢
 revert h
 generalize fndR id off st.rf = q
 cases q <;> first | exact fun h => h.elim | exact fun h => ⟨_, h, fun _ h => h⟩
theorem det_tabE {t' : Ty} {p : (t : Ty) × List t.D} : DetK (tabE t' p) := by
 intro K h
 obtain ⟨pt, pl⟩ := p
 cases t' with
 | arr n t =>
  have h2 : (match cast? (.sl 0 pt) (.sl 0 t) pl with
   | some xs => List.length xs = n ∧ K (.tv (.arr n t) xs)
   | none => False) := h
  show ∃ v, K v ∧ ∀ K' : AV0 → Prop, K' v → (match cast? (.sl 0 pt) (.sl 0 t) pl with
   | some xs => List.length xs = n ∧ K' (.tv (.arr n t) xs)
   | none => False)
  revert h2
  generalize cast? (.sl 0 pt) (.sl 0 t) pl = q
  cases q with
  | none => exact fun h => h.elim
  | some xs => exact fun h => ⟨_, h.2, fun K' hk => ⟨h.1, hk⟩⟩
 | _ => exact h.elim
theorem det_optE {t : Ty} {x : t.D} : DetK (optE t x) := by
 intro K h
 cases t <;> first | exact h.elim | skip
 cases x with
 | none => exact ⟨_, h, fun K' hk => hk⟩
 | some y => exact ⟨_, h, fun K' hk => hk⟩
theorem det_load {cx : Cx} {st : St} {T : TypeId} {a : AV0} : DetK (loadA cx st T a) := by
 intro K h
 unfold loadA at h ⊢
 split at h
 · rename_i t' id off hT
   split at h
   · rename_i T0 t x hf
     split at h
     · rename_i y hy
       exact ⟨_, h, fun K' hk => by first | exact hk | (simp only [hT, hf, hy]; exact hk)⟩
     · rename_i hy
       obtain ⟨hag, h⟩ := stat_out h
       obtain ⟨v, hv, hk'⟩ := det_refA K h
       exact ⟨v, hv, fun K' hk => by simp only [hT, hf, hy, hag]; exact hk' K' hk⟩
   · exact h.elim
 · rename_i id off hT
   split at h
   · rename_i T0 t x hf
     obtain ⟨hag, h⟩ := stat_out h
     obtain ⟨v, hv, hk'⟩ := det_refA K h
     exact ⟨v, hv, fun K' hk => by simp only [hT, hf, hag]; exact hk' K' hk⟩
   · exact h.elim
 · rename_i t' t x hT
   split at h
   · rename_i y hy
     exact ⟨_, h, fun K' hk => by first | exact hk | (simp only [hT, hy]; exact hk)⟩
   · exact h.elim
 · rename_i t' id off i f n t hT
   split at h
   · rename_i T0 bt x hf
     split at h
     · rename_i xs hg
       split at h
       · rename_i y hy
         exact ⟨_, h.2, fun K' hk => by first | exact ⟨h.1, hk⟩ | (simp only [hT, hf, hg, hy]; exact ⟨h.1, hk⟩)⟩
       · exact h.elim
     · exact h.elim
   · exact h.elim
 · rename_i t' id i off hT
   split at h
   · rename_i T0 t x hf
     split at h
     · rename_i y hy
       exact ⟨_, h.2, fun K' hk => by first | exact ⟨h.1, hk⟩ | (simp only [hT, hf, hy]; exact ⟨h.1, hk⟩)⟩
     · exact h.elim
   · exact h.elim
 · rename_i t' g i hT
   split at h
   · rename_i p hp
     obtain ⟨h1, h⟩ := stat_out h
     split at h
     · rename_i y hy
       exact ⟨_, h.2, fun K' hk => by simp only [hT, hp, hy, h1]; exact ⟨h.1, hk⟩⟩
     · exact h.elim
   · exact h.elim
 · rename_i t' g hT
   split at h
   · rename_i p hp
     obtain ⟨h1, h⟩ := stat_out h
     obtain ⟨v, hv, hk'⟩ := det_tabE K h
     exact ⟨v, hv, fun K' hk => by first | (simp only [hT, hp, h1]; exact hk' K' hk) | (simp only [hp, h1]; exact hk' K' hk)⟩
   · exact h.elim
 · rename_i t x hT
   obtain ⟨hp, h⟩ := stat_out h
   exact ⟨_, h, fun K' hk => by first | (simp only [hT, hp]; exact hk) | (simp only [hp]; exact hk)⟩
 · rename_i t x hT
   obtain ⟨hp, h⟩ := stat_out h
   obtain ⟨v, hv, hk'⟩ := det_optE K h
   exact ⟨v, hv, fun K' hk => by first | (simp only [hT, hp]; exact hk' K' hk) | (simp only [hp]; exact hk' K' hk)⟩
 · rename_i id off i f n t hT
   split at h
   · rename_i T0 bt x hf
     split at h
     · rename_i xs hg
       obtain ⟨h1, h⟩ := h
       obtain ⟨hp, h⟩ := stat_out h
       obtain ⟨v, hv, hk'⟩ := det_optE K h
       exact ⟨v, hv, fun K' hk => by first | (simp only [hT, hf, hg, hp]; exact ⟨h1, hk' K' hk⟩) | (simp only [hp]; exact ⟨h1, hk' K' hk⟩)⟩
     · exact h.elim
   · exact h.elim
 · exact h.elim
theorem det_fieldAddr {cx : Cx} {st : St} {S : TypeId} {a : AV0} {f : Nat} : DetK (fieldAddrA cx st S a f) := by
 intro K h
 unfold fieldAddrA at h ⊢
 split at h
 · rename_i t x
   unfold fieldRA at h ⊢
   split at h
   · rename_i s hs
     split at h
     · rename_i x' hx
       split at h
       · rename_i t' y hy
         exact ⟨_, h, fun K' hk => by first | exact hk | (simp only [hs, hx, hy]; exact hk)⟩
       · exact h.elim
     · exact h.elim
   · exact h.elim
 rename_i hnr
 unfold fieldAddr0 at h ⊢
 split at h
 · rename_i s hs
   split at h
   · rename_i o ft hf
     split at h
     · rename_i id off
       split at h
       · rename_i T t x hx
         exact ⟨_, h, fun K' hk => by first | exact hk | (simp only [hs, hf, hx]; exact hk)⟩
       · exact h.elim
     · rename_i id i off
       split at h
       · rename_i T t x hx
         exact ⟨_, h, fun K' hk => by first | exact hk | (simp only [hs, hf, hx]; exact hk)⟩
       · exact h.elim
     · rename_i id off i g n t
       split at h
       · rename_i T t x hx
         exact ⟨_, h, fun K' hk => by first | exact hk | (simp only [hs, hf, hx]; exact hk)⟩
       · exact h.elim
     · exact h.elim
   · exact h.elim
 · exact h.elim
theorem det_field {cx : Cx} {S : TypeId} {a : AV0} {f : Nat} : DetK (fieldA cx S a f) := by
 intro K h
 unfold fieldA at h ⊢
 split at h
 · rename_i s t x hs
   split at h
   · rename_i x' hx
     split at h
     · rename_i t' y hy
       exact ⟨_, h, fun K' hk => by first | exact hk | (simp only [hs, hx, hy]; exact hk)⟩
     · exact h.elim
   · exact h.elim
 · exact h.elim
theorem det_indexAddr {cx : Cx} {st : St} {T : TypeId} {a i : AV0} : DetK (indexAddrA cx st T a i) := by
 intro K h
 unfold indexAddrA at h ⊢
 split at h
 · rename_i e t e' t' xs k n hT
   split at h
   · rename_i ys hx
     exact ⟨_, h.2, fun K' hk => by first | exact ⟨h.1, hk⟩ | (simp only [hT, hx]; exact ⟨h.1, hk⟩)⟩
   · exact h.elim
 · rename_i e t id k n hT
   split at h
   · rename_i e' t' xs hf
     obtain ⟨h1, h⟩ := stat_out h
     obtain ⟨h2, h⟩ := stat_out h
     exact ⟨_, h.2, fun K' hk => by first | exact ⟨h.1, hk⟩ | (simp only [hT, hf, h1, h2]; exact ⟨h.1, hk⟩)⟩
   · exact h.elim
 · rename_i e t id lo k kk n hT
   split at h
   · rename_i e' t' xs hf
     obtain ⟨h1, h⟩ := stat_out h
     obtain ⟨h2, h⟩ := stat_out h
     exact ⟨_, h.2, fun K' hk => by first | exact ⟨h.1, hk⟩ | (simp only [hT, hf, h1, h2]; exact ⟨h.1, hk⟩)⟩
   · exact h.elim
 · rename_i m t id off k n hT
   split at h
   · rename_i T0 bt x hf
     split at h
     · rename_i xs hg
       exact ⟨_, h.2, fun K' hk => by first | exact ⟨h.1, hk⟩ | (simp only [hT, hf, hg]; exact ⟨h.1, hk⟩)⟩
     · exact h.elim
   · exact h.elim
 · rename_i m t t' xs k n hT
   split at h
   · rename_i ys hx
     exact ⟨_, h.2, fun K' hk => by first | exact ⟨h.1, hk⟩ | (simp only [hT, hx]; exact ⟨h.1, hk⟩)⟩
   · exact h.elim
 · rename_i e t id off m e2 t' k n hT
   split at h
   · rename_i T0 bt x hf
     obtain ⟨h1, h⟩ := stat_out h
     split at h
     · rename_i xs hg
       exact ⟨_, h.2, fun K' hk => by first | (rw [h1]; exact ⟨h.1, hk⟩) | (simp only [hT, hf, h1, hg]; exact ⟨h.1, hk⟩)⟩
     · exact h.elim
   · exact h.elim
 · rename_i m t g k n hT
   split at h
   · rename_i p hp
     obtain ⟨h1, h⟩ := stat_out h
     exact ⟨_, h.2, fun K' hk => by simp only [hT, hp, h1]; exact ⟨h.1, hk⟩⟩
   · exact h.elim
 · exact h.elim
theorem det_index {cx : Cx} {T : TypeId} {a i : AV0} : DetK (indexA cx T a i) := by
 intro K h
 unfold indexA at h ⊢
 split at h
 · rename_i s k n hT
   exact ⟨_, h.2, fun K' hk => by first | exact ⟨h.1, hk⟩ | (simp only [hT]; exact ⟨h.1, hk⟩)⟩
 · rename_i m t m' t' xs k n hT
   split at h
   · rename_i ys hx
     exact ⟨_, h.2, fun K' hk => by first | exact ⟨h.1, hk⟩ | (simp only [hT, hx]; exact ⟨h.1, hk⟩)⟩
   · exact h.elim
 · exact h.elim
theorem det_bound {d : Int} {a : Option AV0} : DetK (boundA d a) := by
 intro K h
 unfold boundA at h ⊢
 split at h
 · exact ⟨_, h, fun _ h => h⟩
 · exact ⟨_, h, fun _ h => h⟩
 · exact h.elim
theorem det_slice {cx : Cx} {T : TypeId} {a : AV0} {lo hi : Option AV0} : DetK (sliceA cx T a lo hi) := by
 intro K h
 unfold sliceA at h
 split at h
 · rename_i s hT
   have main := (DetK.bind (det_bound (d := (ByteArray.size s : Int)) (a := hi)) (fun hh => DetK.and (c := 0 ≤ hh ∧ hh ≤ (ByteArray.size s : Int)) (DetK.bind (det_bound (d := 0) (a := lo)) (fun l => DetK.and (c := 0 ≤ l ∧ l ≤ hh) (DetK.one (AV0.tv .str (ByteArray.extract s l.toNat hh.toNat))))))) K h
   obtain ⟨v, h1, h2⟩ := main
   exact ⟨v, h1, fun K' hk => by unfold sliceA; simp only [hT]; exact h2 K' hk⟩
 · rename_i e t e' t' xs hT
   split at h
   · rename_i ys hx
     have main := (DetK.bind (det_bound (d := (List.length ys : Int)) (a := hi)) (fun hh => DetK.and (c := 0 ≤ hh ∧ hh ≤ (List.length ys : Int)) (DetK.bind (det_bound (d := 0) (a := lo)) (fun l => DetK.and (c := 0 ≤ l ∧ l ≤ hh) (DetK.one (AV0.tv (.sl e t) ((List.take hh.toNat ys).drop l.toNat))))))) K h
     obtain ⟨v, h1, h2⟩ := main
     exact ⟨v, h1, fun K' hk => by unfold sliceA; simp only [hT, hx]; exact h2 K' hk⟩
   · exact h.elim
 · exact h.elim
theorem det_sub {cx : Cx} {st : St} {T : TypeId} {id : Nat} {lo hi : Option AV0} : DetK (subA cx st T id lo hi) := by
 intro K h
 unfold subA at h
 split at h
 · rename_i e t e' t' xs hT hf
   obtain ⟨h1, h⟩ := stat_out h
   obtain ⟨h2, h⟩ := stat_out h
   have main := (DetK.bind (det_bound (d := (List.length xs : Int)) (a := hi)) (fun hh => DetK.and (c := 0 ≤ hh ∧ hh ≤ (List.length xs : Int)) (DetK.bind (det_bound (d := 0) (a := lo)) (fun l => DetK.and (c := 0 ≤ l ∧ l ≤ hh) (DetK.one (AV0.sub id l.toNat (hh.toNat - l.toNat))))))) K h
   obtain ⟨v, g1, g2⟩ := main
   exact ⟨v, g1, fun K' hk => by unfold subA; simp only [hT, hf, h1, h2]; exact g2 K' hk⟩
 · exact h.elim
theorem det_nilCmp {op : BinOp} {a b : Bool} : DetK (nilCmp op a b) := by
 intro K h
 unfold nilCmp at h ⊢
 obtain ⟨h1, h⟩ := stat_out h
 rw [h1]
 cases op <;> first | exact h.elim | exact ⟨_, h, fun _ h => h⟩
theorem det_binQ {cx : Cx} {hp : List (Nat × Ob)} {T : TypeId} {op : BinOp} {x y : AV0} : DetK (binQ cx hp T op x y) := by
 intro K h
 unfold binQ at h ⊢
 split at h
 · rename_i a b ha hb
   obtain ⟨h1, h⟩ := stat_out h
   obtain ⟨v, hv, hk'⟩ := det_nilCmp K h
   exact ⟨v, hv, fun K' hk => by rw [h1]; exact hk' K' hk⟩
 · obtain ⟨v, hv, hk'⟩ := det_binA K h
   exact ⟨v, hv, fun K' hk => hk' K' hk⟩
theorem det_conv {cx : Cx} {S T : TypeId} {a : AV0} : DetK (convA cx S T a) := by
 intro K h
 unfold convA at h ⊢
 split at h
 · rename_i k1 k k2 n h1 h2
   exact ⟨_, h, fun K' hk => by first | exact hk | (simp only [h1, h2]; exact hk)⟩
 · rename_i s h1 h2
   exact ⟨_, h, fun K' hk => by first | exact hk | (simp only [h1, h2]; exact hk)⟩
 · rename_i e e' xs h1 h2
   exact ⟨_, h, fun K' hk => by first | exact hk | (simp only [h1, h2]; exact hk)⟩
 · exact h.elim
theorem det_len {cx : Cx} {T : TypeId} {x : AV0} {hp : List (Nat × Ob)} : DetK (lenA cx T x hp) := by
 have hO : ∀ {y : AV0}, DetK (lenO cx T y) := by
  intro y K h
  unfold lenO at h ⊢
  split at h
  · rename_i s h1
    exact ⟨_, h, fun K' hk => by first | exact hk | (simp only [h1]; exact hk)⟩
  · rename_i h1
    exact ⟨_, h, fun K' hk => by first | exact hk | (simp only [h1]; exact hk)⟩
  · rename_i n t h1
    exact ⟨_, h, fun K' hk => by first | exact hk | (simp only [h1]; exact hk)⟩
  · exact h.elim
 have hS : ∀ {q : Option Ob} {n : Nat}, DetK (lenS cx T q n) := by
  intro q n K h
  unfold lenS at h ⊢
  split at h
  · rename_i h1
    exact ⟨_, h, fun K' hk => by first | exact hk | (simp only [h1]; exact hk)⟩
  · exact h.elim
 have hW : ∀ {q : Option Ob} {n : Nat}, DetK (lenW cx T q n) := by
  intro q n K h
  unfold lenW at h ⊢
  split at h
  · rename_i h1
    exact ⟨_, h, fun K' hk => by first | exact hk | (simp only [h1]; exact hk)⟩
  · exact h.elim
 cases x <;> first | exact hS | exact hW | exact hO
def Cx.fix (cx : Cx) (f : FuncId) (args res : List AV0) : Cx := { cx with call := fun f' a J => f' = f ∧ a = args ∧ J res }
def Cx.mute (cx : Cx) : Cx := { cx with call := fun _ _ _ => False }
def Cx.mono (cx : Cx) : Prop := ∀ f a (J J' : List AV0 → Prop), (∀ r, J r → J' r) → cx.call f a J → cx.call f a J'
theorem Cx.fix_mono {cx : Cx} {f : FuncId} {args res : List AV0} : (cx.fix f args res).mono := fun _ _ _ _ h ⟨h1, h2, h3⟩ => ⟨h1, h2, h _ h3⟩
theorem Cx.mute_mono {cx : Cx} : cx.mute.mono := fun _ _ _ _ _ h => h.elim
section
variable {P : Program} {cx : Cx} {st : St} {o : Oper}
theorem CxOk.mute (h : CxOk P cx) : CxOk P cx.mute where
 ty := h.ty
 bytes := h.bytes
 mixed := h.mixed
 guard := h.guard
 dep := h.dep
 rowf := h.rowf
 glb := h.glb
 np := h.np
 rty := h.rty
 ptr := h.ptr
 ptrS := h.ptrS
 it := h.it
 sfn := h.sfn
 fns f args J hh := hh.elim
 fnok f args J hh := hh.elim
 det f args J hh := hh.elim
theorem CxOk.fix (h : CxOk P cx) {f : FuncId} {args res : List AV0} {J : List AV0 → Prop} (hc : cx.call f args J) (hr : FnOK P f (fun a J' => a = args ∧ J' res)) : CxOk P (cx.fix f args res) where
 ty := h.ty
 bytes := h.bytes
 mixed := h.mixed
 guard := h.guard
 dep := h.dep
 rowf := h.rowf
 glb := h.glb
 np := h.np
 rty := h.rty
 ptr := h.ptr
 ptrS := h.ptrS
 it := h.it
 sfn := h.sfn
 fns f' a J' hh := by obtain ⟨rfl, rfl, _⟩ := hh; exact h.fns _ _ _ hc
 fnok f' a J' hh := by obtain ⟨rfl, rfl, h3⟩ := hh; exact hr _ _ ⟨rfl, h3⟩
 det f' a J' hh := by obtain ⟨rfl, rfl, h3⟩ := hh; exact ⟨res, h3, hr⟩
def Cx.fixS (cx : Cx) (f : FuncId) (S : SFn) (x : S.inn.D) (i : Nat) (y : (S.out i).D) : Cx := { cx with call := fun _ _ _ => False, scall := fun f' => bif Nat.beq f' f then some ⟨S.inn, S.out, fun x' J' => x' = x ∧ J' i y⟩ else none }
theorem CxOk.fixS (h : CxOk P cx) {f : FuncId} {S : SFn} {x : S.inn.D} {i : Nat} {y : (S.out i).D} (hs : SOK P f S) (hy : FnS P f ⟨S.inn, S.out, fun x' J' => x' = x ∧ J' i y⟩) : CxOk P (cx.fixS f S x i y) where
 ty := h.ty
 bytes := h.bytes
 mixed := h.mixed
 guard := h.guard
 dep := h.dep
 rowf := h.rowf
 glb := h.glb
 np := h.np
 rty := h.rty
 ptr := h.ptr
 ptrS := h.ptrS
 it := h.it
 fns f args J hh := hh.elim
 fnok f args J hh := hh.elim
 det f args J hh := hh.elim
 sfn f' S' hh := by
  simp only [Cx.fixS] at hh
  cases hb : Nat.beq f' f with
  | false => rw [hb] at hh; cases hh
  | true =>
   rw [hb] at hh
   cases hh
   have e := Nat.eq_of_beq_eq_true hb
   subst e
   exact ⟨hs.fn, hy, fun x' J' hh => ⟨i, y, hh.2, by rw [hh.1]; exact hy⟩⟩
theorem flats_eq {res : List AV0} {X Y : Prop} (h : (∀ r ∈ res, ∃ t x, r = .tv t x ∧ t.flat = true) → X → Y) (hf : flats res X) : flats res Y := by
 obtain ⟨h1, h2⟩ := flats_out hf
 have : ∀ {l : List AV0}, (∀ r ∈ l, ∃ t x, r = .tv t x ∧ t.flat = true) → ∀ {Z : Prop}, Z → flats l Z := by
  intro l
  induction l with
  | nil => exact fun _ _ h => h
  | cons r l ih =>
   intro hl Z hz
   obtain ⟨t, x, rfl, ht⟩ := hl _ (List.mem_cons_self ..)
   unfold flats
   rw [ht]
   exact ih (fun q hq => hl q (List.mem_cons_of_mem _ hq)) hz
 exact this h1 (h h1 h2)
theorem flatsO_eq {res : List AV0} {X Y : Prop} (h : X → Y) : ∀ {res : List AV0}, flatsO res X → flatsO res Y
 | [], hf => h hf
 | r :: l, hf => by
  cases r <;> first | exact (show False from hf).elim | skip
  · unfold flatsO at hf ⊢
    split at hf
    · exact flatsO_eq (res := res) h hf
    · split at hf
      · exact flatsO_eq (res := res) h hf
      · exact hf.elim
  · unfold flatsO at hf ⊢
    split at hf
    · exact flatsO_eq (res := res) h hf
    · exact hf.elim
theorem flats_O {Y X : Prop} : ∀ {res : List AV0}, ((∀ r ∈ res, ∃ t x, r = .tv t x ∧ t.flat = true) → X → Y) → flats res X → flatsO res Y
 | [], h, hf => h (fun _ h => by cases h) hf
 | r :: l, h, hf => by
  cases r <;> first | exact (show False from hf).elim | skip
  rename_i t x
  unfold flats at hf
  unfold flatsO
  split at hf
  · rename_i ht
    refine flats_O (fun hl => h fun q hq => ?_) hf
    rcases List.mem_cons.1 hq with rfl | hq
    · exact ⟨t, x, rfl, ht⟩
    · exact hl q hq
  · exact hf.elim
theorem noOwn_out : ∀ {l : List AV0} {k : Prop}, noOwn l k → (∀ r ∈ l, ∀ e t xs, r ≠ .own e t xs) ∧ k
 | [], k, h => ⟨fun r hr => by simp at hr, h⟩
 | r :: l, k, h => by
  cases r <;> first | exact (show False from h).elim | (
   obtain ⟨h1, h2⟩ := noOwn_out (show noOwn l k from h)
   refine ⟨fun q hq => ?_, h2⟩
   rcases List.mem_cons.1 hq with rfl | hq
   · intro e t xs hh; cases hh
   · exact h1 q hq)
theorem putRes_av {d : Option Tmp} : ∀ {res : List AV0}, (∀ r ∈ res, ∀ e t xs, r ≠ .own e t xs) → putRes st d res = st.put d (resAV res)
 | [], _ => rfl
 | [r], h => putRes_one (h r (by simp))
 | r :: q :: l, h => putRes_many (h r (by simp))
theorem argsA_cx {cx cx' : Cx} (h : cx'.ty = cx.ty) : ∀ {xs : List Operand} {Ts : List TypeId}, argsA cx' st xs Ts = argsA cx st xs Ts
 | [], [] => rfl
 | [], _ :: _ => rfl
 | _ :: _, [] => rfl
 | x :: xs, T :: Ts => by
  unfold argsA
  rw [argsA_cx h (xs := xs) (Ts := Ts)]
  cases x <;> simp only [opA, cst, h]
theorem det_box {T : TypeId} {a : AV} : DetK (α := (t : Ty) × t.D) (fun K => boxOf cx st T a (fun t y => K ⟨t, y⟩)) := by
 intro K h
 unfold boxOf at h ⊢
 split at h
 · rename_i t t' x h1 h2
   split at h
   · rename_i y hy
     exact ⟨⟨t, y⟩, h, fun K' hk => by first | exact hk | (simp only [h1, h2, hy]; exact hk)⟩
   · exact h.elim
 · exact h.elim
theorem det_storeO {T : TypeId} {a x : AV} : DetK (storeO cx st T a x) := by
 intro K h
 unfold storeO at h ⊢
 split at h
 rotate_left
 · exact h.elim
 obtain ⟨h0, h⟩ := stat_out h
 split at h
 rotate_left
 · exact h.elim
 rename_i st1 z hp
 split at h
 rotate_left
 · exact h.elim
 rename_i T' bt y hf
 split at h
 rotate_left
 · exact h.elim
 rename_i xs hg
 split at h
 rotate_left
 · exact h.elim
 rename_i x' hs
 obtain ⟨h1, h⟩ := h
 obtain ⟨h2, h⟩ := stat_out h
 exact ⟨_, h, fun K' hk => by simp only [h0, hp, hf, hg, hs, h2]; exact ⟨h1, hk⟩⟩
theorem det_store {T : TypeId} {a x : AV0} : DetK (storeA cx st T a x) := by
 intro K h
 unfold storeA at h ⊢
 split at h
 · rename_i t' id off t'' y hT
   split at h
   · rename_i z hz
     split at h
     · rename_i T' t x hf
       split at h
       · rename_i x' hx
         obtain ⟨hn, h⟩ := stat_out h
         exact ⟨_, h, fun K' hk => by simp only [hT, hz, hf, hx, hn]; exact hk⟩
       · exact h.elim
     · exact h.elim
   · exact h.elim
 · rename_i t' id off i f n t t'' y hT
   split at h
   · rename_i z hz
     split at h
     · rename_i T0 bt x hf
       split at h
       · rename_i xs hg
         split at h
         · rename_i z1 hz1
           split at h
           · rename_i x1 hs
             obtain ⟨h1, h⟩ := h
             obtain ⟨h2, h⟩ := stat_out h
             exact ⟨_, h, fun K' hk => by simp only [hT, hz, hf, hg, hz1, hs, h2]; exact ⟨h1, hk⟩⟩
           · exact h.elim
         · exact h.elim
       · exact h.elim
     · exact h.elim
   · exact h.elim
 · rename_i t' id i off t'' y hT
   split at h
   · rename_i z hz
     split at h
     · rename_i e t xs hf
       split at h
       · rename_i x' hx
         exact ⟨_, h.2, fun K' hk => by first | exact ⟨h.1, hk⟩ | (simp only [hT, hz, hf, hx]; exact ⟨h.1, hk⟩)⟩
       · exact h.elim
     · exact h.elim
   · exact h.elim
 · exact h.elim
theorem det_append {T : TypeId} {d : Nat} {s : Option AV0} {x : AV0} : DetK (appendA cx st T d s x) := by
 intro K h
 unfold appendA at h ⊢
 split at h
 · rename_i e t e' t' ys hT
   split at h
   · rename_i zs hz
     split at h
     · rename_i id
       split at h
       · rename_i e1 t1 xs hf
         split at h
         · rename_i us hu
           exact ⟨_, h.2, fun K' hk => by first | exact ⟨h.1, hk⟩ | (simp only [hT, hz, hf, hu]; exact ⟨h.1, hk⟩)⟩
         · exact h.elim
       · exact h.elim
     · exact ⟨_, h.2, fun K' hk => by first | exact ⟨h.1, hk⟩ | (simp only [hT, hz]; exact ⟨h.1, hk⟩)⟩
     · exact h.elim
   · exact h.elim
 · exact h.elim
theorem det_src {hp : List (Nat × Ob)} {T T' : TypeId} {x : AV0} : DetK (srcA cx hp T T' x) := by
 intro K h
 unfold srcA at h ⊢
 split at h
 · exact ⟨_, h, fun K' hk => hk⟩
 · split at h
   · rename_i e s h1 h2
     exact ⟨_, h, fun K' hk => by first | exact hk | (simp only [h1, h2]; exact hk)⟩
   · rename_i e t k kq n h1 h2
     exact ⟨_, h.2, fun K' hk => by first | exact ⟨h.1, hk⟩ | (simp only [h1, h2]; exact ⟨h.1, hk⟩)⟩
   · exact h.elim
theorem det_copy {T : TypeId} {d s : AV0} : DetK (α := St × Int) (fun K => copyA cx st T d s fun st n => K (st, n)) := by
 intro K h
 unfold copyA at h ⊢
 split at h
 · rename_i e t id e' t' ys hT
   split at h
   · rename_i zs hz
     split at h
     · rename_i e2 t2 xs hf
       obtain ⟨h1, h⟩ := stat_out h
       split at h
       · rename_i us hu
         exact ⟨(_, _), h, fun K' hk => by simp only [hT, hz, hf, h1, hu]; exact hk⟩
       · exact h.elim
     · exact h.elim
   · exact h.elim
 · rename_i e t id off n e2 t2 e' t' ys hT
   split at h
   · rename_i zs hz
     split at h
     · rename_i T0 bt x hf
       obtain ⟨h1, h⟩ := stat_out h
       split at h
       · rename_i xs hg
         split at h
         · rename_i x1 hs
           obtain ⟨h2, h⟩ := stat_out h
           exact ⟨(_, _), h, fun K' hk => by simp only [hT, hz, hf, h1, hg, hs, h2]; exact hk⟩
         · exact h.elim
       · exact h.elim
     · exact h.elim
   · exact h.elim
 · exact h.elim
theorem det_arsV {cx : Cx} {st : St} {T R : TypeId} {b : Bool} {a : AV0} : DetK (arsV cx st T R b a) := by
 intro K h
 unfold arsV at h ⊢
 split at h
 · rename_i hT hR
   obtain ⟨h1, h⟩ := stat_out h
   split at h
   · rename_i xs hx
     exact ⟨_, h, fun K' hk => by first | (simp only [hT, hR, h1, hx]; exact hk) | (simp only [h1, hx]; exact hk)⟩
   · exact h.elim
 · rename_i hT hR
   obtain ⟨h1, h⟩ := stat_out h
   split at h
   · rename_i T0 bt x hf
     split at h
     · rename_i xs hx
       obtain ⟨h2, h⟩ := stat_out h
       exact ⟨_, h, fun K' hk => by first | (simp only [hT, hR, h1, hf, hx, h2]; exact hk) | (simp only [h1, hf, hx, h2]; exact hk)⟩
     · exact h.elim
   · exact h.elim
 · exact h.elim
theorem arsV_A {cx : Cx} {st : St} {T R : TypeId} {b : Bool} {d : Option Tmp} {a : AV0} {K : St → Prop} (h : arsV cx st T R b a fun v => K (st.put d (.v v))) : arsA cx st T R b d a K := by
 unfold arsV at h
 unfold arsA
 split at h
 · rename_i hT hR
   obtain ⟨h1, h⟩ := stat_out h
   split at h
   · rename_i xs hx
     first | (simp only [hT, hR, h1, hx]; exact h) | (simp only [h1, hx]; exact h)
   · exact h.elim
 · rename_i hT hR
   obtain ⟨h1, h⟩ := stat_out h
   split at h
   · rename_i T0 bt x hf
     split at h
     · rename_i xs hx
       obtain ⟨h2, h⟩ := stat_out h
       first | (simp only [hT, hR, h1, hf, hx, h2, cond_true]; exact h) | (simp only [h1, hf, hx, h2, cond_true]; exact h)
     · exact h.elim
   · exact h.elim
 · exact h.elim
theorem det_ars {T R : TypeId} {b : Bool} {d : Option Tmp} {a : AV0} : DetK (arsA cx st T R b d a) := by
 intro K h
 unfold arsA at h ⊢
 split at h
 · rename_i n t e t1 t' xs h1 h2
   obtain ⟨h3, h⟩ := stat_out h
   split at h
   · rename_i ys hy
     exact ⟨_, h, fun K' hk => by simp only [h1, h2, h3, hy]; exact hk⟩
   · exact h.elim
 · rename_i n t e t1 id off h1 h2
   obtain ⟨h3, h⟩ := stat_out h
   split at h
   · rename_i T0 bt x hf
     split at h
     · rename_i xs hg
       cases b with
       | true => exact ⟨_, h, fun K' hk => by simp only [h1, h2, h3, hf, hg]; exact hk⟩
       | false => exact ⟨_, h, fun K' hk => by simp only [h1, h2, h3, hf, hg]; exact hk⟩
     · exact h.elim
   · exact h.elim
 · exact h.elim
theorem det_row {k : RowF} {e : TypeId} {d : Nat} {Ts : List TypeId} {as : List AV} : DetK (rowA cx st k e d Ts as) := by
 intro K h
 unfold rowA at h ⊢
 split at h
 · rename_i T x
   split at h
   · rename_i e1 t e' t' ys hT hx
     split at h
     · rename_i zs hz
       obtain ⟨h1, h⟩ := stat_out h
       exact ⟨_, h.2, fun K' hk => by first | exact ⟨h.1, hk⟩ | (simp only [hT, hx, hz, h1]; exact ⟨h.1, hk⟩)⟩
     · exact h.elim
   · exact h.elim
 · rename_i T T1 T2 id n id2
   split at h
   · rename_i e1 t ea ta xs eb tb ys hT hf hg
     split at h
     · rename_i us y hu hy
       obtain ⟨h1, h⟩ := stat_out h
       cases hb : Nat.beq id id2 with
       | true => rw [hb] at h; exact h.elim
       | false =>
        rw [hb, cond_false] at h
        exact ⟨_, h.2, fun K' hk => by first | exact ⟨h.1, hk⟩ | (simp only [hT, hf, hg, hu, hy, h1, hb]; exact ⟨h.1, hk⟩)⟩
     · exact h.elim
   · exact h.elim
 · rename_i T T1 T2 id n m
   split at h
   · rename_i e1 t ea ta xs hT hf
     split at h
     · rename_i us hu
       obtain ⟨h1, h⟩ := stat_out h
       exact ⟨_, h.2, fun K' hk => by first | exact ⟨h.1, hk⟩ | (simp only [hT, hf, hu, h1]; exact ⟨h.1, hk⟩)⟩
     · exact h.elim
   · exact h.elim
 · exact h.elim
theorem det_noOwn {α : Type} {F : (α → Prop) → Prop} (h : DetK F) : ∀ {l : List AV0}, DetK (fun K => noOwn l (F K))
 | [] => h
 | a :: l => by cases a <;> first | exact DetK.nil | exact det_noOwn h (l := l)
theorem det_resK {d : Option Tmp} {res : List AV0} : DetK (fun K => resK d K res) := by
 rcases res with _ | ⟨a, r⟩
 · exact det_noOwn (DetK.one _)
 · cases a <;> try exact det_noOwn (DetK.one _)
   cases d with
   | none => exact DetK.nil
   | some d =>
    cases r with
    | nil => exact DetK.one _
    | cons b r => exact det_noOwn (DetK.one _)
theorem det_clone {k : RowF} {e : TypeId} {d : Nat} {Ts : List TypeId} {as : List AV} : DetK (cloneA cx st k e d Ts as) := by
 intro K h
 unfold cloneA at h ⊢
 split at h
 · rename_i T x
   split at h
   · rename_i e1 t e' t' ys hT hx
     split at h
     · rename_i zs hz
       obtain ⟨h1, h⟩ := stat_out h
       exact ⟨_, h.2, fun K' hk => by first | exact (by rw [h1]; exact ⟨h.1, hk⟩) | (simp only [hT, hx, hz, h1]; exact ⟨h.1, hk⟩)⟩
     · exact h.elim
   · exact h.elim
 · exact h.elim
theorem det_appV {T : TypeId} {d : Nat} {x : AV0} : DetK (appV cx T d x) := by
 intro K h
 unfold appV at h ⊢
 split at h
 · rename_i e t e' t' ys hT
   split at h
   · rename_i zs hz
     exact ⟨_, h.2, fun K' hk => by first | exact ⟨h.1, hk⟩ | (simp only [hT, hz]; exact ⟨h.1, hk⟩)⟩
   · exact h.elim
 · exact h.elim
theorem val_fix (h : CxOk P cx) {K : AV × Option Ob → Prop} (hk : valA cx o st K) : ∃ cx1 v, CxOk P cx1 ∧ cx1.mono ∧ K v ∧ ∀ K' : AV × Option Ob → Prop, K' v → valA cx1 o st K' := by
 have plain : ∀ {F : (AV × Option Ob → Prop) → Prop}, (∀ K, valA cx o st K ↔ F K) → (∀ K, valA cx.mute o st K ↔ F K) → DetK F → ∃ cx1 v, CxOk P cx1 ∧ cx1.mono ∧ K v ∧ ∀ K' : AV × Option Ob → Prop, K' v → valA cx1 o st K' := by
  intro F h1 h2 hd
  obtain ⟨v, hv, hv'⟩ := hd K ((h1 K).1 hk)
  exact ⟨cx.mute, v, h.mute, Cx.mute_mono, hv, fun K' hK => (h2 K').2 (hv' K' hK)⟩
 have pv : ∀ {G : (AV0 → Prop) → Prop}, DetK G → DetK (fun K : AV × Option Ob → Prop => G fun v => K (.v v, none)) := fun hg => DetK.bind (G := fun v (K : AV × Option Ob → Prop) => K (AV.v v, none)) hg (fun v => DetK.one _)
 cases ho : o.op with
 | move x => exact plain (F := fun K => K (opA cx st o.type x, none)) (fun K => by unfold valA; rw [ho]) (fun K => by unfold valA; rw [ho]; exact Iff.rfl) (DetK.one _)
 | assign x =>
  refine plain (fun K => by unfold valA; rw [ho]) (fun K => by unfold valA; rw [ho]; exact Iff.rfl) ?_
  dsimp only
  cases o.dst with
  | none => cases x <;> exact DetK.one _
  | some d =>
   cases x with
   | tmp i =>
    simp only
    generalize st.get i = q
    rcases q with (_ | id | _ | _ | _ | _ | _ | _) | l
    all_goals first | exact DetK.stat (DetK.one _) | exact DetK.nil
   | const c =>
    simp only
    refine DetK.cond ?_ (DetK.one _)
    intro K hk
    split at hk
    · rename_i e t hT
      exact ⟨_, hk, fun K' hk' => by first | exact hk' | (simp only [hT]; exact hk')⟩
    · exact hk.elim
   | global g => exact DetK.one _
   | func f => exact DetK.one _
 | alloc T =>
  refine plain (fun K => by unfold valA; rw [ho]) (fun K => by unfold valA; rw [ho]; exact Iff.rfl) ?_
  dsimp only
  cases o.dst with
  | none => exact DetK.nil
  | some d => cases hT : cx.ty T with
   | none => simp only; exact DetK.nil
   | some t => simp only; exact DetK.one _
 | box T x =>
  refine plain (fun K => by unfold valA; rw [ho]) (fun K => by unfold valA; rw [ho]; exact Iff.rfl) ?_
  dsimp only
  cases o.dst with
  | none => exact DetK.nil
  | some d => exact DetK.stat (DetK.bind (G := fun (p : (t : Ty) × t.D) (K : AV × Option Ob → Prop) => K (.v (.ptr d 0), some (.box T p.1 p.2))) (det_box (cx := cx) (st := st) (T := T) (a := opA cx st T x)) (fun p => DetK.one _))
 | buildSlice T n parts =>
  refine plain (fun K => by unfold valA; rw [ho]) (fun K => by unfold valA; rw [ho]; exact Iff.rfl) ?_
  dsimp only
  cases o.dst with
  | none => exact DetK.nil
  | some d =>
   cases hT : cx.ty T with
   | none => simp only; exact DetK.nil
   | some t =>
    cases t <;> try exact DetK.nil
    rename_i e t
    simp only
    refine DetK.stat ?_
    generalize fillL t (List.replicate n t.zero) (roP st.hp (partsL st t parts.toList)) = q
    cases q with
    | none => exact DetK.nil
    | some x => exact DetK.stat (DetK.one _)
 | makeSlice T l c =>
  refine plain (fun K => by unfold valA; rw [ho]) (fun K => by unfold valA; rw [ho]; exact Iff.rfl) ?_
  dsimp only
  intro K hk
  split at hk
  · rename_i d e t k n k' m hd hT hl hc
    exact ⟨_, hk.2, fun K' hk' => by first | exact ⟨hk.1, hk'⟩ | (simp only [hd, hT, hl, hc]; exact ⟨hk.1, hk'⟩)⟩
  · exact hk.elim
 | pick c a b =>
  unfold valA at hk; rw [ho] at hk; simp only at hk
  split at hk
  · rename_i cb hc
    refine plain (F := fun K => br cb (K (opA cx st o.type a, none)) (K (opA cx st o.type b, none))) (fun K => by unfold valA; rw [ho]; simp only [hc]) (fun K => ?_) (DetK.br (DetK.one _) (DetK.one _))
    unfold valA; rw [ho]; simp only [show opA cx.mute st 0 c = _ from hc]; exact Iff.rfl
  · exact hk.elim
 | build T parts =>
  unfold valA at hk; rw [ho] at hk; simp only at hk
  split at hk
  · rename_i t ht
    cases hs : t.isSt with
    | false =>
     rw [hs, cond_false] at hk
     obtain ⟨he, hk⟩ := stat_out hk
     split at hk
     · rename_i v hv
       refine plain (F := fun K => K (.v v, none)) (fun K => ?_) (fun K => ?_) (DetK.one _)
       · unfold valA; rw [ho]; simp only [ht, hs, cond_false, he, hv]; exact Iff.rfl
       · unfold valA; rw [ho]; simp only [show cx.mute.ty T = _ from ht, hs, cond_false, he, hv]; exact Iff.rfl
     · exact hk.elim
    | true =>
     rw [hs, cond_true] at hk
     obtain ⟨he, hk⟩ := stat_out hk
     split at hk
     · rename_i x hx
       refine plain (F := fun K => K (.v (.tv t x), none)) (fun K => ?_) (fun K => ?_) (DetK.one _)
       · unfold valA; rw [ho]; simp only [ht, hs, cond_true, he, hx]; exact Iff.rfl
       · unfold valA; rw [ho]; simp only [show cx.mute.ty T = _ from ht, hs, cond_true, he, hx]; exact Iff.rfl
     · exact hk.elim
  · exact hk.elim
 | load T a => exact plain (fun K => by unfold valA; rw [ho]) (fun K => by unfold valA; rw [ho]; exact Iff.rfl) (det_one fun x => pv (det_load (cx := cx) (st := st) (T := T) (a := x)))
 | nilCheck x =>
  refine plain (fun K => by unfold valA; rw [ho]) (fun K => by unfold valA; rw [ho]; exact Iff.rfl) (det_one fun a => ?_)
  cases a <;> first | exact DetK.one _ | exact DetK.nil | skip
  rename_i i f
  dsimp only
  generalize fnd i st.hp = r
  rcases r with _ | (⟨_, _, _⟩ | ⟨_, _, _⟩)
  · exact DetK.nil
  · exact DetK.one _
  · exact DetK.nil
 | binOp op T x y T' => exact plain (fun K => by unfold valA; rw [ho]) (fun K => by unfold valA; rw [ho]; exact Iff.rfl) (det_one fun x => det_one fun y => pv (det_binQ (cx := cx) (hp := st.hp) (T := T) (op := op) (x := x) (y := y)))
 | unOp op T x => exact plain (fun K => by unfold valA; rw [ho]) (fun K => by unfold valA; rw [ho]; exact Iff.rfl) (det_one fun x => pv (det_unA (op := op) (x := x)))
 | convert S T x => exact plain (fun K => by unfold valA; rw [ho]) (fun K => by unfold valA; rw [ho]; exact Iff.rfl) (det_one fun x => pv (det_conv (cx := cx) (S := S) (T := T) (a := x.ro st.hp)))
 | slice T x lo hi mx =>
  cases mx with
  | none => exact plain (fun K => by unfold valA; rw [ho]) (fun K => by unfold valA; rw [ho]; exact Iff.rfl) (DetK.cond (det_one fun x => pv (det_arsV (cx := cx) (st := st) (T := T) (R := o.type) (b := cx.win (o.dst.getD 0)) (a := x))) <| det_one fun x => DetK.stat (pv (det_slice (cx := cx) (T := T) (a := x.ro st.hp) (lo := lo.map fun l => (opA cx st 0 l).ro st.hp) (hi := hi.map fun h => (opA cx st 0 h).ro st.hp))))
  | some _ => unfold valA at hk; rw [ho] at hk; exact hk.elim
 | fieldAddr S x f => exact plain (fun K => by unfold valA; rw [ho]) (fun K => by unfold valA; rw [ho]; exact Iff.rfl) (det_one fun x => pv (det_fieldAddr (cx := cx) (st := st) (S := S) (a := x) (f := f)))
 | field S x f => exact plain (fun K => by unfold valA; rw [ho]) (fun K => by unfold valA; rw [ho]; exact Iff.rfl) (det_one fun x => pv (det_field (cx := cx) (S := S) (a := x) (f := f)))
 | indexAddr T x i => exact plain (fun K => by unfold valA; rw [ho]) (fun K => by unfold valA; rw [ho]; exact Iff.rfl) (det_one fun x => det_one fun i => pv (det_indexAddr (cx := cx) (st := st) (T := T) (a := x) (i := i)))
 | index T x i => exact plain (fun K => by unfold valA; rw [ho]) (fun K => by unfold valA; rw [ho]; exact Iff.rfl) (det_one fun x => det_one fun i => pv (det_index (cx := cx) (T := T) (a := x) (i := i)))
 | extract x i =>
  refine plain (fun K => by unfold valA; rw [ho]) (fun K => by unfold valA; rw [ho]; exact Iff.rfl) ?_
  dsimp only
  generalize opA cx st 0 x = q
  cases q with
  | v a => exact DetK.nil
  | tup l =>
   cases hi : l[i]? with
   | none => simp only [hi]; exact DetK.nil
   | some y => simp only [hi]; exact DetK.one _
 | call c =>
  cases hc : c.callee with
  | value f =>
   unfold valA at hk; rw [ho] at hk; simp only [hc] at hk
   split at hk
   · rename_i f' hf
     split at hk
     · rename_i as has
       split at hk
       · exact hk.elim
       rename_i hsc
       split at hk
       · rename_i d hr
         unfold pcallA at hk
         cases hb : cx.bor f' with
         | true =>
          rw [hb, cond_true] at hk
          obtain ⟨res, hj, hok⟩ := h.det _ _ _ hk
          obtain ⟨h1, h2⟩ := flats_out hj
          refine ⟨cx.fix f' (as.map (AV.argS st)) res, _, h.fix hk hok, Cx.fix_mono, h2, fun K' hK => ?_⟩
          unfold valA; rw [ho]; simp only [hc, show opA (cx.fix f' (as.map (AV.argS st)) res) st 0 f = _ from hf, show argsA (cx.fix f' (as.map (AV.argS st)) res) st c.args.toList c.argTypes.toList = _ from (argsA_cx (cx := cx) (cx' := cx.fix f' (as.map (AV.argS st)) res) rfl).trans has, show (cx.fix f' (as.map (AV.argS st)) res).rowf f' = none from hr, show scOf ((cx.fix f' (as.map (AV.argS st)) res).scall f') as = none from hsc]
          unfold pcallA
          rw [show (cx.fix f' (as.map (AV.argS st)) res).bor f' = true from hb]
          exact ⟨rfl, rfl, flats_eq (fun _ _ => hK) hj⟩
         | false =>
          rw [hb, cond_false] at hk
          obtain ⟨he, hk⟩ := stat_out hk
          obtain ⟨res, hj, hok⟩ := h.det _ _ _ hk
          obtain ⟨p, h1, h2⟩ := det_resK (d := o.dst) (res := res) K hj
          refine ⟨cx.fix f' (as.map (AV.arg st.hp)) res, p, h.fix hk hok, Cx.fix_mono, h1, fun K' hK => ?_⟩
          unfold valA; rw [ho]; simp only [hc, show opA (cx.fix f' (as.map (AV.arg st.hp)) res) st 0 f = _ from hf, show argsA (cx.fix f' (as.map (AV.arg st.hp)) res) st c.args.toList c.argTypes.toList = _ from (argsA_cx (cx := cx) (cx' := cx.fix f' (as.map (AV.arg st.hp)) res) rfl).trans has, show (cx.fix f' (as.map (AV.arg st.hp)) res).rowf f' = none from hr, show scOf ((cx.fix f' (as.map (AV.arg st.hp)) res).scall f') as = none from hsc]
          unfold pcallA
          rw [show (cx.fix f' (as.map (AV.arg st.hp)) res).bor f' = false from hb, he]
          exact ⟨rfl, rfl, h2 K' hK⟩
       · rename_i k e d hr hd
         obtain ⟨s, hs, hF⟩ := det_clone K hk
         refine ⟨cx.mute, s, h.mute, Cx.mute_mono, hs, fun K' hK => ?_⟩
         unfold valA; rw [ho]; simp only [hc, show opA cx.mute st 0 f = _ from hf, show argsA cx.mute st c.args.toList c.argTypes.toList = _ from (argsA_cx (cx := cx) (cx' := cx.mute) rfl).trans has, show cx.mute.rowf f' = _ from hr, hd, show scOf (cx.mute.scall f') as = none from hsc]
         exact hF K' hK
       · exact hk.elim
     · exact hk.elim
   · exact hk.elim
  | invoke r mm => unfold valA at hk; rw [ho] at hk; simp only [hc] at hk
  | builtin b =>
   obtain ⟨callee, args, argTypes⟩ := c
   simp only at hc
   subst hc
   cases b with
   | len =>
    refine plain (fun K => by unfold valA; rw [ho]) (fun K => by unfold valA; rw [ho]; exact Iff.rfl) ?_
    dsimp only
    generalize args.toList = l1
    generalize argTypes.toList = l2
    rcases l1 with _ | ⟨x, _ | ⟨y, l1⟩⟩ <;> rcases l2 with _ | ⟨T, _ | ⟨T', l2⟩⟩ <;> first | exact DetK.nil | exact det_one fun x => pv (det_len (cx := cx) (T := T) (x := x) (hp := st.hp))
   | append =>
    refine plain (fun K => by unfold valA; rw [ho]) (fun K => by unfold valA; rw [ho]; exact Iff.rfl) ?_
    dsimp only
    generalize args.toList = l1
    generalize argTypes.toList = l2
    generalize o.dst = d
    rcases l1 with _ | ⟨s, _ | ⟨x, _ | ⟨z, l1⟩⟩⟩ <;> rcases l2 with _ | ⟨T, _ | ⟨T', _ | ⟨T'', l2⟩⟩⟩ <;> rcases d with _ | d <;> first | exact DetK.nil | skip
    exact DetK.stat (DetK.stat (det_one fun x => det_appV (cx := cx) (T := T) (d := d) (x := x.ro st.hp)))
   | max =>
    refine plain (fun K => by unfold valA; rw [ho]) (fun K => by unfold valA; rw [ho]; exact Iff.rfl) ?_
    dsimp only
    generalize args.toList = l1
    rcases l1 with _ | ⟨x, _ | ⟨y, _ | ⟨z, l1⟩⟩⟩ <;> first | exact DetK.nil | skip
    refine det_one fun x => det_one fun y => ?_
    cases x <;> try exact DetK.nil
    rename_i t1 x
    cases y <;> cases t1 <;> try exact DetK.nil
    rename_i t2 y k
    cases t2 <;> first | exact DetK.nil | exact DetK.stat (DetK.one _)
   | min =>
    refine plain (fun K => by unfold valA; rw [ho]) (fun K => by unfold valA; rw [ho]; exact Iff.rfl) ?_
    dsimp only
    generalize args.toList = l1
    rcases l1 with _ | ⟨x, _ | ⟨y, _ | ⟨z, l1⟩⟩⟩ <;> first | exact DetK.nil | skip
    refine det_one fun x => det_one fun y => ?_
    cases x <;> try exact DetK.nil
    rename_i t1 x
    cases y <;> cases t1 <;> try exact DetK.nil
    rename_i t2 y k
    cases t2 <;> first | exact DetK.nil | exact DetK.stat (DetK.one _)
   | _ => unfold valA at hk; rw [ho] at hk; exact hk.elim
 | _ => unfold valA at hk; rw [ho] at hk; exact hk.elim
theorem cAny_yes {d : Nat} : ∀ {rs : List (Nat × Nat)}, cAny d rs = true → ∃ p ∈ rs, p.2 ≠ 0 ∧ cId p.2 = d
 | [], h => by cases h
 | q :: r, h => by
  simp only [cAny] at h
  cases hq : cOf d q.2 with
  | true =>
   unfold cOf at hq
   rw [nbeq, nbeq] at hq
   simp at hq
   exact ⟨q, by simp, hq.1, hq.2⟩
  | false =>
   rw [hq, cond_false] at h
   obtain ⟨p, hp, h1⟩ := cAny_yes h
   exact ⟨p, by simp [hp], h1⟩
theorem cAny_off {d : Nat} {t : Ty} {x : t.D} {rs : List (Nat × Nat)} (h : d ∉ (AV0.str t x rs).refs) : cAny d rs = false := by
 cases hc : cAny d rs with
 | false => rfl
 | true =>
  obtain ⟨p, hp, h1, h2⟩ := cAny_yes hc
  exact (h (List.mem_map.2 ⟨p, List.mem_filter.2 ⟨hp, by rw [nbeq]; simp [h1]⟩, h2⟩)).elim
theorem kill0_off {d : Nat} : ∀ {a : AV0}, d ∉ a.refs → a.kill d = a := by
 intro a h
 cases a <;> try rfl
 case str t x rs =>
  simp only [AV0.kill, cAny_off h, cond_false]
 all_goals
  simp only [AV0.refs, List.mem_singleton] at h
  simp only [AV0.kill, nbeq]
  rw [decide_eq_false (fun e => h e.symm), cond_false]
theorem refsL_mem {d : Nat} : ∀ {l : List AV0}, d ∉ refsL l → ∀ a ∈ l, d ∉ a.refs
 | [], _, a, h => by simp at h
 | b :: l, h, a, ha => by
  simp only [refsL, List.mem_append, not_or] at h
  rcases List.mem_cons.1 ha with rfl | ha
  · exact h.1
  · exact refsL_mem h.2 a ha
theorem kill_off {d : Nat} {a : AV} (h : d ∉ a.refs) : a.kill d = a := by
 cases a with
 | v a => simp only [AV.kill]; rw [kill0_off h]
 | tup l =>
  simp only [AV.kill]
  congr 1
  have := refsL_mem (l := l) h
  clear h
  induction l with
  | nil => rfl
  | cons b l ih =>
   rw [List.map_cons, kill0_off (this b (List.mem_cons_self ..)), ih (fun a ha => this a (List.mem_cons_of_mem _ ha))]
def Fresh (st : St) (d : Nat) : Prop := d < st.n ∧ (∀ t, t ≠ d → d ∉ (st.get t).refs) ∧ ∀ id off, d ∉ (fndR id off st.rf).refs ∧ fndR d off st.rf = .un
theorem fresh_set {st : St} {d : Nat} (h : Fresh st d) (x : AV) (ob : Ob) : Sim { env := setE st.n d x (mapE (AV.kill d) st.env), hp := ins d ob st.hp, n := st.n, rf := mapR (AV0.kill d) (offR d st.rf) } { env := setE st.n d x st.env, hp := ins d ob st.hp, n := st.n, rf := st.rf } := by
 refine ⟨rfl, fun t => ?_, fun id => rfl, fun id off => ?_⟩
 rotate_left
 · show fndR id off (mapR (AV0.kill d) (offR d st.rf)) = fndR id off st.rf
   rw [fndR_map _ rfl, fndR_off]
   by_cases e : id = d
   · rw [if_pos e, e, (h.2.2 d off).2]; rfl
   · rw [if_neg e]; exact kill0_off (h.2.2 id off).1
 show fndE t _ = fndE t _
 rw [fndE_set, fndE_set, fndE_map (AV.kill d) rfl]
 split
 · rfl
 · rename_i hne
   refine kill_off (h.2.1 t (fun e => hne ⟨e.symm, h.1⟩))
theorem mk_eff {st : St} {d : Nat} {ob : Ob} {a : AV0} (h : Fresh st d) : Sim (st.mk_ d ob a) (eff st (some d) (.v a) (some ob)) := by
 have e : st.mk_ d ob a = st.mk0 d ob a := by unfold St.mk_; rw [nblt, decide_eq_true h.1]; rfl
 rw [e]; exact fresh_set h _ _
theorem mkT_eff {st : St} {d : Nat} {ob : Ob} {l : List AV0} (h : Fresh st d) : Sim (st.mkT_ d ob l) (eff st (some d) (.tup l) (some ob)) := by
 have e : st.mkT_ d ob l = st.mkT0 d ob l := by unfold St.mkT_; rw [nblt, decide_eq_true h.1]; rfl
 rw [e]; exact fresh_set h _ _
def FrK (st : St) (d : Option Tmp) (K : St → Prop) (p : AV × Option Ob) : Prop := (p.2 = none ∨ ∃ x, d = some x ∧ Fresh st x) ∧ K (eff st d p.1 p.2)
theorem FrK_none {d : Option Tmp} {K : St → Prop} {v : AV} : FrK st d K (v, none) = K (st.put d v) := by
 simp only [FrK, eff, true_or, true_and]
theorem FrK.put {d : Option Tmp} {K : St → Prop} {v : AV} (h : FrK st d K (v, none)) : K (st.put d v) := h.2
theorem FrK.mk {d : Nat} {K : St → Prop} (hs : ∀ s s2, Sim s s2 → K s2 → K s) {a : AV0} {ob : Ob} (h : FrK st (some d) K (.v a, some ob)) : K (st.mk_ d ob a) := by
 obtain ⟨h1, h2⟩ := h
 rcases h1 with h1 | ⟨x, hx, h1⟩
 · cases h1
 · cases hx; exact hs _ _ (mk_eff h1) h2
theorem FrK.mkT {d : Nat} {K : St → Prop} (hs : ∀ s s2, Sim s s2 → K s2 → K s) {l : List AV0} {ob : Ob} (h : FrK st (some d) K (.tup l, some ob)) : K (st.mkT_ d ob l) := by
 obtain ⟨h1, h2⟩ := h
 rcases h1 with h1 | ⟨x, hx, h1⟩
 · cases h1
 · cases hx; exact hs _ _ (mkT_eff h1) h2
theorem resK_put {d : Option Tmp} {K : St → Prop} (hs : ∀ s s2, Sim s s2 → K s2 → K s) {res : List AV0} (h : resK d (FrK st d K) res) : K (putRes st d res) := by
 rcases res with _ | ⟨a, r⟩
 · exact FrK.put h
 · cases a
   case own e t xs =>
    cases d with
    | none => exact (show False from h).elim
    | some d =>
     cases r with
     | nil => exact FrK.mk hs h
     | cons b r => exact FrK.mkT hs (noOwn_out (show noOwn (b :: r) _ from h)).2
   all_goals
    obtain ⟨h1, h2⟩ := noOwn_out (show noOwn _ _ from h)
    rw [putRes_av h1]
    exact FrK.put h2
theorem pk_of_ro {hp : List (Nat × Ob)} {q : AV0} {t : Ty} {x : t.D} (h : q.ro hp = .tv t x) : q.pk hp = .tv t x := by
 cases q <;> first | exact h | exact (AV0.noConfusion h)
theorem val_aop (hm : cx.mono) {K : St → Prop} (hsim : ∀ s s2, Sim s s2 → K s2 → K s) (hk : valA cx o st (FrK st o.dst K)) : aop cx o K st := by
 unfold valA at hk
 unfold aop
 cases ho : o.op with
 | assign x =>
  rw [ho] at hk; simp only at hk ⊢
  revert hk
  cases o.dst with
  | none => cases x <;> exact fun hk => FrK.put hk
  | some d =>
   cases x with
   | tmp i =>
    simp only
    generalize st.get i = q
    rcases q with (_ | id | _ | _ | _ | _ | _ | _) | l
    all_goals first | exact fun hk => hk.elim | (intro hk; obtain ⟨h1, hk⟩ := stat_out hk; rw [List.isEmpty_iff.1 h1]; exact FrK.put hk)
   | const c =>
    simp only
    cases cx.nilrow d
    · exact fun hk => FrK.put hk
    · simp only [cond_true]
      split
      · exact fun hk => FrK.mk hsim hk
      · exact fun hk => hk
   | global g => exact fun hk => FrK.put hk
   | func f => exact fun hk => FrK.put hk
 | alloc T =>
  rw [ho] at hk; simp only at hk ⊢
  revert hk
  cases o.dst with
  | none => exact fun hk => hk
  | some d => cases cx.ty T with
   | none => exact fun hk => hk
   | some t => exact fun hk => FrK.mk hsim hk
 | box T x =>
  rw [ho] at hk; simp only at hk ⊢
  revert hk
  cases o.dst with
  | none => exact fun hk => hk
  | some d =>
   intro hk
   obtain ⟨he, hk⟩ := stat_out hk
   simp only
   split
   · rename_i t t' y rs hT hx
     rw [hx] at hk
     unfold boxOf at hk
     rw [hT] at hk
     exact hk.elim
   rw [List.isEmpty_iff.1 he]
   obtain ⟨⟨t, y⟩, h1, h2⟩ := det_box (cx := cx) (st := st) (T := T) (a := opA cx st T x) (fun p => FrK st (some d) K (.v (.ptr d 0), some (.box T p.1 p.2))) hk
   exact h2 (fun p => K ((freezes st []).mk_ d (.box T p.1 p.2) (.ptr d 0))) (FrK.mk hsim h1)
 | build T parts =>
  rw [ho] at hk; simp only at hk ⊢
  split at hk
  · rename_i t ht
    cases hs : t.isSt with
    | false =>
     rw [hs, cond_false] at hk
     rw [cond_false]
     obtain ⟨he, hk⟩ := stat_out hk
     rw [List.isEmpty_iff.1 he]
     split at hk
     · exact FrK.put hk
     · exact hk.elim
    | true =>
     rw [hs, cond_true] at hk
     rw [cond_true]
     obtain ⟨he, hk⟩ := stat_out hk
     rw [List.isEmpty_iff.1 he]
     split at hk
     · exact FrK.put hk
     · exact hk.elim
  · exact hk.elim
 | buildSlice T n parts =>
  rw [ho] at hk; simp only at hk ⊢
  revert hk
  cases o.dst with
  | none => exact fun hk => hk
  | some d =>
   cases cx.ty T with
   | none => exact fun hk => hk
   | some t =>
    cases t <;> try exact fun hk => hk
    rename_i e t
    intro hk
    obtain ⟨he, hk⟩ := stat_out hk
    simp only
    rw [List.isEmpty_iff.1 he]
    split at hk
    · obtain ⟨h1, hk⟩ := stat_out hk
      rw [h1]; exact FrK.mk hsim hk
    · exact hk
 | makeSlice T l c =>
  rw [ho] at hk; simp only at hk ⊢
  split at hk
  · rename_i d e t k n k' m hd hT hl hc
    rw [hd] at hk
    exact ⟨hk.1, FrK.mk hsim hk.2⟩
  · exact hk.elim
 | slice T x lo hi mx =>
  rw [ho] at hk
  cases mx with
  | none =>
   simp only [FrK_none] at hk ⊢
   cases hna : (isArr (cx.ty T) && lo.isNone && hi.isNone) with
   | true =>
    rw [hna, cond_true] at hk
    rw [cond_true]
    revert hk
    cases opA cx st T x with
    | v a => exact fun hk => arsV_A hk
    | tup l => exact fun hk => hk
   | false =>
   rw [hna, cond_false] at hk
   rw [cond_false]
   revert hk
   generalize opA cx st T x = q
   cases q with
   | tup l => exact fun h => h
   | v a =>
    intro hk
    obtain ⟨he, hk⟩ := stat_out (show stat a.ids.isEmpty _ from hk)
    unfold one
    simp only
    rw [show winQ (cx.win (o.dst.getD 0)) a = none from by cases a <;> first | rfl | cases he]
    simp only
    rw [List.isEmpty_iff.1 he]
    exact hk
  | some _ => exact hk
 | call c =>
  rw [ho] at hk
  cases hc : c.callee with
  | value f =>
   simp only [hc] at hk ⊢
   split at hk
   · rename_i f' hf
     split at hk
     · rename_i as has
       split at hk
       · exact hk.elim
       rename_i hsc
       split at hk
       · rename_i d hr
         simp only [hf, has, hsc, hr]
         unfold pcallA at hk
         unfold callA
         cases hb : cx.bor f' with
         | true =>
          rw [hb, cond_true] at hk
          rw [cond_true]
          refine hm _ _ _ _ (fun res hj => ?_) hk
          refine flats_O (fun hl hK => ?_) hj
          show K (putRes st o.dst res)
          rw [putRes_av (fun r hr e t xs he => by obtain ⟨t', x, rfl, _⟩ := hl r hr; cases he)]
          exact FrK.put hK
         | false =>
          rw [hb, cond_false] at hk
          rw [cond_false]
          obtain ⟨he, hk⟩ := stat_out hk
          refine hm _ _ _ _ (fun res hj => ?_) hk
          rw [List.isEmpty_iff.1 he]
          exact resK_put hsim hj
       · rename_i k e d hr hd
         simp only [hf, has, hsc, hr, hd]
         rw [hd] at hk
         clear has
         revert hk
         generalize c.argTypes.toList = Ts
         intro hk
         unfold cloneA at hk
         unfold rowA
         split at hk
         · rename_i T x
           split at hk
           · rename_i e1 t e' t' ys hT hx
             split at hk
             · rename_i zs hz
               obtain ⟨h1, hk⟩ := stat_out hk
               simp only [hT, hx, hz]
               rw [h1]
               exact ⟨hk.1, FrK.mk hsim hk.2⟩
             · exact hk.elim
           · exact hk.elim
         · exact hk.elim
       · exact hk.elim
     · exact hk.elim
   · exact hk.elim
  | invoke r mm => simp only [hc] at hk
  | builtin b =>
   cases b
   case append =>
    simp only [hc] at hk ⊢
    split at hk
    · rename_i s x T T' d h1 h2 hd
      rw [hd] at hk
      obtain ⟨hT, hk⟩ := stat_out hk
      obtain ⟨hn, hk⟩ := stat_out hk
      obtain rfl := Nat.eq_of_beq_eq_true hT
      rw [hn]
      show one (opA cx st T' x) fun x => srcA cx st.hp T' T' x fun x => appendA cx st T' d none x K
      unfold one at hk ⊢
      split at hk
      · rename_i q hq
        unfold srcA
        rw [hT]
        show appendA cx st T' d none (q.pk st.hp) K
        unfold appV at hk
        unfold appendA
        split at hk
        · rename_i e t e' t' ys hty hro
          split at hk
          · rename_i zs hz
            rw [pk_of_ro hro]
            simp only [hty, hz]
            exact ⟨hk.1, FrK.mk hsim hk.2⟩
          · exact hk.elim
        · exact hk.elim
      · exact hk.elim
    · exact hk.elim
   all_goals simp only [hc, FrK_none] at hk ⊢ <;> first | exact hk.elim | exact hk
 | convert S T x =>
  rw [ho] at hk; simp only [FrK_none] at hk ⊢
  unfold markA
  split
  · rename_i id hx
    cases hST : Nat.beq S T with
    | false => exact hk
    | true =>
     exfalso
     obtain rfl := Nat.eq_of_beq_eq_true hST
     rw [hx] at hk
     unfold one at hk
     simp only [AV0.ro] at hk
     unfold convA at hk
     revert hk
     cases fnd id st.hp with
     | none => intro hk; revert hk; cases cx.ty S <;> (try rename_i t; cases t) <;> intro hk <;> split at hk <;> simp_all
     | some ob => cases ob <;> intro hk <;> revert hk <;> cases cx.ty S <;> (try rename_i t; cases t) <;> intro hk <;> split at hk <;> simp_all
  · exact hk
 | extract x i =>
  rw [ho] at hk; simp only [FrK_none] at hk ⊢
  exact hk
 | _ => rw [ho] at hk; first | exact hk.elim | (simp only [FrK_none] at hk ⊢; exact hk) | (simp only [FrK_none] at hk)
def AgD (s2 s : St) : Nat → Nat → Prop
 | 0, _ => True
 | n + 1, id => fnd id s2.hp = fnd id s.hp ∧ ∀ off, fndR id off s2.rf = fndR id off s.rf ∧ (∀ j, fndR id off s.rf = .row j → fnd j s2.hp = fnd j s.hp) ∧ ∀ j o, fndR id off s.rf = .ptr j o → AgD s2 s n j
theorem agD_of {s2 s : St} (hrf : s2.rf = s.rf) (hno : ∀ id off j, j ∈ (fndR id off s.rf).refs → fnd j s2.hp = fnd j s.hp) : ∀ n id, fnd id s2.hp = fnd id s.hp → AgD s2 s n id
 | 0, _, _ => trivial
 | n + 1, id, h => ⟨h, fun off => ⟨by rw [hrf], fun j hj => hno id off j (by rw [hj]; simp [AV0.refs]), fun j o hj => agD_of hrf hno n j (hno id off j (by rw [hj]; simp [AV0.refs]))⟩⟩
def AgH (s2 s : St) (l : List Nat) : Prop := ∀ id ∈ l, AgD s2 s 4 id
section
variable {s2 s1 : St}
theorem ro_ag {a : AV0} (h : AgH s2 s1 a.refs) : a.ro s2.hp = a.ro s1.hp := by
 cases a with
 | row i => simp only [AV0.ro]; rw [(h i (by simp [AV0.refs])).1]
 | _ => rfl
theorem roV_ag {a : AV} (h : AgH s2 s1 a.refs) : a.ro s2.hp = a.ro s1.hp := by
 cases a with
 | v a => exact ro_ag h
 | tup l => rfl
theorem arg_ag {a : AV} (h : AgH s2 s1 a.refs) : a.arg s2.hp = a.arg s1.hp := by
 cases a with
 | v a => simp only [AV.arg, AV0.arg, ro_ag (a := a) h]
 | tup l => rfl
theorem deep_ag {n id : Nat} (h : AgD s2 s1 (n + 1) id) {g g' : Nat → Option ((t' : Ty) × t'.D)} (hg : ∀ j, AgD s2 s1 n j → g j = g' j) : ∀ {t : Ty} {x : t.D} {off : Nat}, deep g s2 id t x off = deep g' s1 id t x off := by
 intro t
 induction t with
 | pair a b iha ihb => intro x off; simp only [deep]; rw [iha]; simp only [ihb]
 | hole k =>
  intro x off
  obtain ⟨h1, h2, h3⟩ := h.2 off
  cases k with
  | ptr =>
   simp only [deep]
   rw [h1]
   split
   · rename_i j hj; rw [hg j (h3 j 0 hj)]
   · rfl
  | sl =>
   simp only [deep]
   rw [h1]
   split
   · rename_i j hj; rw [h2 j hj]
   · rfl
 | _ => intro x off; rfl
theorem deepN_ag : ∀ (n id : Nat), AgD s2 s1 n id → deepN n s2 id = deepN n s1 id
 | 0, _, _ => rfl
 | n + 1, id, h => by
  simp only [deepN]
  rw [h.1]
  split
  · exact deep_ag h (fun j hj => deepN_ag n j hj)
  · rfl
theorem argS_ag {a : AV} (h : AgH s2 s1 a.refs) : a.argS s2 = a.argS s1 := by
 cases a with
 | tup l => rfl
 | v a =>
  show a.argS s2 = a.argS s1
  unfold AV0.argS
  split
  · rename_i id
    rw [deepN_ag 4 id (h id (by simp [AV.refs, AV0.refs]))]
  · rename_i i o n e t
    simp only [AV0.pk]
    rw [(h i (by simp [AV.refs, AV0.refs])).1]
  · simp only [AV0.arg, ro_ag (a := a) h]
theorem one_ag {q : AV} {F G : AV0 → Prop} (h : ∀ a, q = .v a → F a = G a) : one q F = one q G := by
 cases q with
 | v a => exact h a rfl
 | tup l => rfl
theorem one_mp {q : AV} {F G : AV0 → Prop} (h : ∀ a, q = .v a → F a = G a) (hk : one q G) : one q F := by rw [one_ag h]; exact hk
theorem refA_ag {st2 : St} {id off : Nat} {K : AV0 → Prop} (h : AgH st2 st [id]) : refA st2 id off K = refA st id off K := by
 unfold refA
 rw [((h id (by simp)).2 off).1]
theorem load_ag {st2 : St} {T : TypeId} {a : AV0} {K : AV0 → Prop} (h : AgH st2 st a.refs) : loadA cx st2 T a K = loadA cx st T a K := by
 unfold loadA
 generalize cx.ty T = q
 cases q with
 | none =>
  cases a with
  | ptr id off => simp only; rw [(h id (by simp [AV0.refs])).1, refA_ag (fun i hi => h i (by simpa [AV0.refs] using hi))]
  | rptr t x => cases t <;> rfl
  | bel id off i f n t => simp only; rw [(h id (by simp [AV0.refs])).1]
  | _ => rfl
 | some t' =>
  cases a with
  | ptr id off => simp only; rw [(h id (by simp [AV0.refs])).1, refA_ag (fun i hi => h i (by simpa [AV0.refs] using hi))]
  | elt id i off => simp only; rw [(h id (by simp [AV0.refs])).1]
  | bel id off i f n t => simp only; rw [(h id (by simp [AV0.refs])).1]
  | _ => rfl
theorem arsV_ag {st2 : St} {T R : TypeId} {b : Bool} {a : AV0} {K : AV0 → Prop} (h : AgH st2 st a.refs) : arsV cx st2 T R b a K = arsV cx st T R b a K := by
 unfold arsV
 generalize cx.ty T = q
 generalize cx.ty R = q2
 cases a with
 | ptr id off =>
  rcases q with _ | t <;> rcases q2 with _ | t2 <;> try rfl
  · cases t <;> rfl
  · cases t <;> try rfl
    cases t2 <;> try rfl
    simp only
    rw [(h id (by simp [AV0.refs])).1]
 | _ => rcases q with _ | t <;> rcases q2 with _ | t2 <;> first | rfl | (cases t <;> first | rfl | (cases t2 <;> rfl))
theorem fieldAddr_ag {st2 : St} {S : TypeId} {a : AV0} {f : Nat} {K : AV0 → Prop} (h : AgH st2 st a.refs) : fieldAddrA cx st2 S a f K = fieldAddrA cx st S a f K := by
 unfold fieldAddrA
 cases a <;> try rfl
 all_goals unfold fieldAddr0
 all_goals simp only
 all_goals rw [(h _ (by simp [AV0.refs])).1]
theorem indexAddr_ag {st2 : St} {T : TypeId} {a i : AV0} {K : AV0 → Prop} (h : AgH st2 st a.refs) : indexAddrA cx st2 T a i K = indexAddrA cx st T a i K := by
 unfold indexAddrA
 generalize cx.ty T = q
 cases a with
 | row id =>
  cases q with
  | none => rfl
  | some t =>
   cases t <;> try rfl
   cases i <;> try rfl
   rename_i ti n
   cases ti <;> try rfl
   simp only
   rw [(h id (by simp [AV0.refs])).1]
 | sub id lo k =>
  cases q with
  | none => rfl
  | some t =>
   cases t <;> try rfl
   cases i <;> try rfl
   rename_i ti n
   cases ti <;> try rfl
   simp only
   rw [(h id (by simp [AV0.refs])).1]
 | ptr id off =>
  cases q with
  | none => rfl
  | some t =>
   cases t <;> try rfl
   cases i <;> try rfl
   rename_i ti n
   cases ti <;> try rfl
   simp only
   rw [(h id (by simp [AV0.refs])).1]
 | tv t x =>
  rcases q with _ | s
  · rfl
  · cases s <;> try rfl
    cases t <;> try rfl
    cases i <;> try rfl
    rename_i ti n
    cases ti <;> rfl
 | rptr t x =>
  rcases q with _ | s
  · rfl
  · cases s <;> try rfl
    cases i <;> try rfl
    rename_i ti n
    cases ti <;> rfl
 | wbx id off m e t' =>
  cases q with
  | none => rfl
  | some t =>
   cases t <;> try rfl
   cases i <;> try rfl
   rename_i ti n
   cases ti <;> try rfl
   simp only
   rw [(h id (by simp [AV0.refs])).1]
 | glb g =>
  rcases q with _ | s
  · rfl
  · cases s <;> try rfl
    cases i <;> try rfl
    rename_i ti n
    cases ti <;> rfl
 | _ => rcases q with _ | s <;> first | rfl | (cases s <;> rfl)
theorem ptrQ_ag {a : AV0} (h : AgH s2 s1 a.refs) : ptrQ s2.hp a = ptrQ s1.hp a := by
 cases a with
 | ptr id off => simp only [ptrQ]; rw [(h id (by simp [AV0.refs])).1]
 | _ => rfl
theorem binQ_ag {T : TypeId} {op : BinOp} {x y : AV0} {K : AV0 → Prop} (hx : AgH s2 s1 x.refs) (hy : AgH s2 s1 y.refs) : binQ cx s2.hp T op x y K = binQ cx s1.hp T op x y K := by
 unfold binQ
 rw [ptrQ_ag hx, ptrQ_ag hy, ro_ag hx, ro_ag hy]
theorem len_ag {T : TypeId} {a : AV0} {K : AV0 → Prop} (h : AgH s2 s1 a.refs) : lenA cx T a s2.hp K = lenA cx T a s1.hp K := by
 have hr := ro_ag h
 cases a with
 | sub id lo n =>
  show lenS cx T (fnd id s2.hp) n K = lenS cx T (fnd id s1.hp) n K
  rw [(h id (by simp [AV0.refs])).1]
 | wbx id off n e t =>
  show lenW cx T (fnd id s2.hp) n K = lenW cx T (fnd id s1.hp) n K
  rw [(h id (by simp [AV0.refs])).1]
 | row id => show lenO cx T ((AV0.row id).ro s2.hp) K = lenO cx T ((AV0.row id).ro s1.hp) K; rw [hr]
 | _ => rfl
end
theorem val_agree {st2 : St} (hg : ∀ t, Operand.tmp t ∈ o.op.operands → st2.get t = st.get t) (hr : ∀ t, Operand.tmp t ∈ o.op.operands → AgH st2 st (st.get t).refs) {K : AV × Option Ob → Prop} (hk : valA cx o st K) : valA cx o st2 K := by
 have gA : ∀ x ∈ o.op.operands, ∀ T, opA cx st2 T x = opA cx st T x := by
  intro x hx T
  cases x <;> first | rfl | exact hg _ hx
 have gT : ∀ x ∈ o.op.operands, ∀ t, opT st2 t x = opT st t x := by
  intro x hx T
  cases x <;> first | rfl | exact hg _ hx
 have cR : ∀ {T : TypeId} {v : Value}, (cst cx T v).refs = [] := by
  intro T v
  unfold cst
  split
  · split <;> rfl
  · split <;> rfl
 have rA : ∀ x ∈ o.op.operands, ∀ T, AgH st2 st (opA cx st T x).refs := by
  intro x hx T
  cases x with
  | tmp t => exact hr t hx
  | const v => intro id hid; simp only [opA, AV.refs, cR] at hid; simp at hid
  | global g => intro id hid; simp [opA, AV.refs, AV0.refs] at hid
  | func f => intro id hid; simp [opA, AV.refs, AV0.refs] at hid
 have rT : ∀ x ∈ o.op.operands, ∀ t, AgH st2 st (opT st t x).refs := by
  intro x hx T
  cases x with
  | tmp t => exact hr t hx
  | const v =>
   intro id hid
   simp only [opT, AV.refs, cstT] at hid
   split at hid <;> simp [AV0.refs] at hid
  | global g => intro id hid; simp [opT, AV.refs, AV0.refs] at hid
  | func f => intro id hid; simp [opT, AV.refs, AV0.refs] at hid
 have getA : ∀ t, Operand.tmp t ∈ o.op.operands → st2.get t = st.get t := hg
 clear hg hr cR
 unfold valA at hk ⊢
 revert hk
 revert rT
 revert gT
 revert rA
 revert gA
 revert getA
 cases o.op with
 | move x => intro getA gA rA gT rT; simp only [gA x (by simp [Op.operands])]; exact id
 | assign x =>
  intro getA gA rA gT rT
  have h0 := gA x (by simp [Op.operands])
  simp only [h0]
  cases o.dst with
  | none => cases x <;> exact id
  | some d =>
   cases x with
   | tmp i => simp only [getA i (by simp [Op.operands])]; exact id
   | const v => exact id
   | global g => exact id
   | func f => exact id
 | alloc T => intro getA gA rA gT rT; exact id
 | box T x =>
  intro getA gA rA gT rT
  have h0 := gA x (by simp [Op.operands]) T
  have h1 : ∀ (K : (t : Ty) → t.D → Prop), boxOf cx st2 T (opA cx st T x) K = boxOf cx st T (opA cx st T x) K := fun K => by simp only [boxOf, roV_ag (rA x (by simp [Op.operands]) T)]
  simp only [h0, h1]; exact id
 | pick c a b => intro getA gA rA gT rT; simp only [gA c (by simp [Op.operands]), gA a (by simp [Op.operands]), gA b (by simp [Op.operands])]; exact id
 | build T parts =>
  intro getA gA rA gT rT
  have hparts : ∀ (t : Ty) (l : List (Nat × Operand)), (∀ p ∈ l, p.2 ∈ (Op.build T parts).operands) → partsF st2 t l = partsF st t l ∧ roP st2.hp (partsF st t l) = roP st.hp (partsF st t l) := by
   intro t l
   induction l with
   | nil => exact fun _ => ⟨rfl, rfl⟩
   | cons p l ih =>
    obtain ⟨f, x⟩ := p
    intro hl
    unfold partsF
    obtain ⟨i1, i2⟩ := ih (fun p hp => hl p (List.mem_cons_of_mem _ hp))
    rw [i1]
    have := hl (f, x) (List.mem_cons_self ..)
    split
    · refine ⟨by rw [gT x this], ?_⟩
      simp only [roP]
      rw [i2, roV_ag (rT x this _)]
    · refine ⟨rfl, ?_⟩
      simp only [roP]
      rw [i2]; rfl
  have hh := fun t => hparts t parts.toList (fun p hp => by simp [Op.operands]; exact ⟨p.1, by simpa using hp⟩)
  have hpartsL : ∀ (t : Ty) (l : List (Nat × Operand)), (∀ p ∈ l, p.2 ∈ (Op.build T parts).operands) → partsL st2 t l = partsL st t l ∧ roP st2.hp (partsL st t l) = roP st.hp (partsL st t l) := by
   intro t l
   induction l with
   | nil => exact fun _ => ⟨rfl, rfl⟩
   | cons p l ih =>
    obtain ⟨f, x⟩ := p
    intro hl
    unfold partsL
    obtain ⟨i1, i2⟩ := ih (fun p hp => hl p (List.mem_cons_of_mem _ hp))
    rw [i1]
    have := hl (f, x) (List.mem_cons_self ..)
    refine ⟨by rw [gT x this], ?_⟩
    simp only [roP]
    rw [i2, roV_ag (rT x this _)]
  have hhL := fun t => hpartsL t parts.toList (fun p hp => by simp [Op.operands]; exact ⟨p.1, by simpa using hp⟩)
  have hV : ∀ t, arrV st2 parts.toList t = arrV st parts.toList t := fun t => by cases t <;> simp only [arrV, (hhL _).1, (hhL _).2]
  have hI : ∀ t, arrI st2 parts.toList t = arrI st parts.toList t := fun t => by cases t <;> simp only [arrI, (hhL _).1]
  simp only [fun t => (hh t).1, fun t => (hh t).2, hV, hI]; exact id
 | buildSlice T n parts =>
  intro getA gA rA gT rT
  have hparts : ∀ (t : Ty) (l : List (Nat × Operand)), (∀ p ∈ l, p.2 ∈ (Op.buildSlice T n parts).operands) → partsL st2 t l = partsL st t l ∧ roP st2.hp (partsL st t l) = roP st.hp (partsL st t l) := by
   intro t l
   induction l with
   | nil => exact fun _ => ⟨rfl, rfl⟩
   | cons p l ih =>
    obtain ⟨f, x⟩ := p
    intro hl
    unfold partsL
    obtain ⟨i1, i2⟩ := ih (fun p hp => hl p (List.mem_cons_of_mem _ hp))
    rw [i1]
    have := hl (f, x) (List.mem_cons_self ..)
    refine ⟨by rw [gT x this], ?_⟩
    simp only [roP]
    rw [i2, roV_ag (rT x this _)]
  have hh := fun t => hparts t parts.toList (fun p hp => by simp [Op.operands]; exact ⟨p.1, by simpa using hp⟩)
  simp only [fun t => (hh t).1, fun t => (hh t).2]; exact id
 | makeSlice T l c => intro getA gA rA gT rT; simp only [gA l (by simp [Op.operands]), gA c (by simp [Op.operands])]; exact id
 | load T a =>
  intro getA gA rA gT rT
  simp only [gA a (by simp [Op.operands])]
  intro hk
  exact one_mp (fun v hv => load_ag (st := st) (by have := rA a (by simp [Op.operands]) 0; rw [hv] at this; exact this)) hk
 | nilCheck x =>
  intro getA gA rA gT rT
  simp only [gA x (by simp [Op.operands])]
  intro hk
  exact one_mp (fun v hv => by
   have := rA x (by simp [Op.operands]) 0
   rw [hv] at this
   cases v <;> try rfl
   rename_i i f
   simp only
   rw [(this i (by simp [AV.refs, AV0.refs])).1]) hk
 | binOp op T x y T' =>
  intro getA gA rA gT rT
  simp only [gA x (by simp [Op.operands]), gA y (by simp [Op.operands])]
  intro hk
  exact one_mp (fun v hv => one_ag fun u hu => by
   have h1 := rA x (by simp [Op.operands]) T
   have h2 := rA y (by simp [Op.operands]) (yT op T T')
   rw [hv] at h1
   rw [hu] at h2
   exact binQ_ag h1 h2) hk
 | unOp op T x => intro getA gA rA gT rT; simp only [gA x (by simp [Op.operands])]; exact id
 | convert S T x =>
  intro getA gA rA gT rT
  simp only [gA x (by simp [Op.operands])]
  intro hk
  exact one_mp (fun v hv => by
   have h1 := rA x (by simp [Op.operands]) S
   rw [hv] at h1
   rw [ro_ag (a := v) h1]) hk
 | slice T x lo hi mx =>
  intro getA gA rA gT rT
  cases mx with
  | some _ => exact id
  | none =>
   simp only [gA x (by simp [Op.operands])]
   have h1 : (lo.map fun l => (opA cx st2 0 l).ro st2.hp) = (lo.map fun l => (opA cx st 0 l).ro st.hp) := by
    cases lo with
    | none => rfl
    | some l => simp only [Option.map_some]; rw [gA l (by simp [Op.operands]), roV_ag (rA l (by simp [Op.operands]) 0)]
   have h2 : (hi.map fun l => (opA cx st2 0 l).ro st2.hp) = (hi.map fun l => (opA cx st 0 l).ro st.hp) := by
    cases hi with
    | none => rfl
    | some l => simp only [Option.map_some]; rw [gA l (by simp [Op.operands]), roV_ag (rA l (by simp [Op.operands]) 0)]
   rw [h1, h2]
   cases hb : (isArr (cx.ty T) && lo.isNone && hi.isNone) with
   | true =>
    simp only [cond_true]
    intro hk
    exact one_mp (fun v hv => arsV_ag (by have := rA x (by simp [Op.operands]) T; rw [hv] at this; exact this)) hk
   | false =>
   simp only [cond_false]
   intro hk
   exact one_mp (fun v hv => by
    have h1 := rA x (by simp [Op.operands]) T
    rw [hv] at h1
    rw [ro_ag (a := v) h1]) hk
 | fieldAddr S x f =>
  intro getA gA rA gT rT
  simp only [gA x (by simp [Op.operands])]
  intro hk
  exact one_mp (fun v hv => fieldAddr_ag (st := st) (by have := rA x (by simp [Op.operands]) 0; rw [hv] at this; exact this)) hk
 | field S x f => intro getA gA rA gT rT; simp only [gA x (by simp [Op.operands])]; exact id
 | indexAddr T x i =>
  intro getA gA rA gT rT
  simp only [gA x (by simp [Op.operands]), gA i (by simp [Op.operands])]
  intro hk
  exact one_mp (fun v hv => one_ag fun u hu => indexAddr_ag (st := st) (by have := rA x (by simp [Op.operands]) T; rw [hv] at this; exact this)) hk
 | index T x i => intro getA gA rA gT rT; simp only [gA x (by simp [Op.operands]), gA i (by simp [Op.operands])]; exact id
 | extract x i => intro getA gA rA gT rT; simp only [gA x (by simp [Op.operands])]; exact id
 | call c =>
  intro getA gA rA gT rT
  have hargs : ∀ (l : List Operand) (Ts : List TypeId), (∀ x ∈ l, x ∈ (Op.call c).operands) → argsA cx st2 l Ts = argsA cx st l Ts ∧ ∀ as, argsA cx st l Ts = some as → ∀ a ∈ as, AgH st2 st a.refs := by
   intro l
   induction l with
   | nil =>
    intro Ts _
    cases Ts with
    | nil => exact ⟨rfl, fun as h => by cases h; simp⟩
    | cons _ _ => exact ⟨rfl, fun as h => by cases h⟩
   | cons x l ih =>
    intro Ts hl
    cases Ts with
    | nil => exact ⟨rfl, fun as h => by cases h⟩
    | cons T Ts =>
     obtain ⟨i1, i2⟩ := ih Ts (fun p hp => hl p (List.mem_cons_of_mem _ hp))
     unfold argsA
     rw [i1, gA x (hl x (List.mem_cons_self ..))]
     refine ⟨rfl, fun as h => ?_⟩
     split at h
     · rename_i l' hl'
       cases h
       intro a ha
       rcases List.mem_cons.1 ha with rfl | ha
       · exact rA x (hl x (List.mem_cons_self ..)) T
       · exact i2 l' hl' a ha
     · cases h
  obtain ⟨hA, hB⟩ := hargs c.args.toList c.argTypes.toList (fun x hx => by simp [Op.operands, Call.operands]; exact .inr (by simpa using hx))
  cases hc : c.callee with
  | value f =>
   simp only [hc, hA, gA f (by simp [Op.operands, Call.operands, hc])]
   intro hk
   split at hk
   · split at hk
     · rename_i as has
       have hm : as.map (AV.arg st2.hp) = as.map (AV.arg st.hp) := List.map_congr_left fun a ha => arg_ag (hB as has a ha)
       have hmS : as.map (AV.argS st2) = as.map (AV.argS st) := List.map_congr_left fun a ha => argS_ag (hB as has a ha)
       split at hk
       · exact hk.elim
       rename_i hsc
       split at hk
       · rename_i d hr
         unfold pcallA at hk ⊢
         rw [hm, hmS]; exact hk
       · rename_i k e d hr hd
         unfold cloneA at hk ⊢
         split at hk
         · rename_i T x hTs
           rw [ro_ag (a := x) (hB _ has (.v x) (by simp))]
           exact hk
         · exact hk.elim
       · exact hk.elim
     · exact hk.elim
   · exact hk.elim
  | invoke r mm => intro h; simp only [hc] at h
  | builtin b =>
   simp only [hc]
   have mem : ∀ x ∈ c.args.toList, ∀ T, opA cx st2 T x = opA cx st T x ∧ AgH st2 st (opA cx st T x).refs := fun x hx T => by
    have : x ∈ (Op.call c).operands := by simp [Op.operands, Call.operands]; exact .inr (by simpa using hx)
    exact ⟨gA x this T, rA x this T⟩
   revert mem
   generalize c.args.toList = l1
   intro mem
   cases b <;> try exact id
   case append =>
    generalize c.argTypes.toList = l2
    rcases l1 with _ | ⟨s, _ | ⟨x, _ | ⟨z, l1⟩⟩⟩ <;> rcases l2 with _ | ⟨T, _ | ⟨T', _ | ⟨T'', l2⟩⟩⟩ <;> cases o.dst <;> first | exact id | skip
    simp only [(mem x (by simp) _).1]
    intro hk
    obtain ⟨e1, hk⟩ := stat_out hk
    obtain ⟨e2, hk⟩ := stat_out hk
    rw [e1, e2]
    exact one_mp (fun v hv => by rw [ro_ag (a := v) (by have := (mem x (by simp) T).2; rw [hv] at this; exact this)]) hk
   · generalize c.argTypes.toList = l2
     rcases l1 with _ | ⟨x, _ | ⟨y, l1⟩⟩ <;> rcases l2 with _ | ⟨T, _ | ⟨T', l2⟩⟩ <;> first | exact id | skip
     simp only [(mem x (by simp) _).1]
     intro hk
     exact one_mp (fun v hv => len_ag (by have := (mem x (by simp) T).2; rw [hv] at this; exact this)) hk
   · rcases l1 with _ | ⟨x, _ | ⟨y, _ | ⟨z, l1⟩⟩⟩ <;> first | exact id | skip
     simp only [(mem x (by simp) _).1, (mem y (by simp) _).1]; exact id
   · rcases l1 with _ | ⟨x, _ | ⟨y, _ | ⟨z, l1⟩⟩⟩ <;> first | exact id | skip
     simp only [(mem x (by simp) _).1, (mem y (by simp) _).1]; exact id
 | _ => intro _ _ _ _ _; exact id
theorem val_run (h : CxOk P cx) {K : AV × Option Ob → Prop} (hk : valA cx o st K) : ∃ p, K p ∧ ∀ st2 : St, (∀ t, Operand.tmp t ∈ o.op.operands → st2.get t = st.get t ∧ AgH st2 st (st.get t).refs) → (p.2 = none ∨ ∃ x, o.dst = some x ∧ Fresh st2 x) →
 ∀ (w0 : Bas) (ok0 : Nat → Prop) (a : Act) (w : World) (Q : Exit → Act → World → Prop), RelE w0 ok0 st2 a w → o.wp P a w (RelE w0 ok0 (eff st2 o.dst p.1 p.2)) Q := by
 obtain ⟨cx1, p, h1, hm, hv, hF⟩ := val_fix h hk
 refine ⟨p, hv, fun st2 hg hfr w0 ok0 a w Q ⟨m, ok, r, f⟩ => ?_⟩
 have hk2 := val_aop hm (K := fun s => Sim s (eff st2 o.dst p.1 p.2)) (fun s s2 h1 h2 => h1.trans h2) (val_agree (fun t ht => (hg t ht).1) (fun t ht => (hg t ht).2) (hF (FrK st2 o.dst fun s => Sim s (eff st2 o.dst p.1 p.2)) ⟨hfr, Sim.refl _⟩))
 exact Oper.wp_mono' (fun a' w' ⟨s, hs, hr⟩ => hs.ent _ _ _ _ hr) (aop_sound ⟨h1, r, f⟩ hk2)
theorem aop_fix (h : CxOk P cx) {K : St → Prop} (hk : aop cx o K st) : ∃ cx1 st', CxOk P cx1 ∧ K st' ∧ ∀ K' : St → Prop, K' st' → aop cx1 o K' st := by
 have plain : ∀ {F : (St → Prop) → Prop}, (∀ K, aop cx o K st ↔ F K) → (∀ K, aop cx.mute o K st ↔ F K) → DetK F → ∃ cx1 st', CxOk P cx1 ∧ K st' ∧ ∀ K' : St → Prop, K' st' → aop cx1 o K' st := by
  intro F h1 h2 hd
  obtain ⟨v, hv, hv'⟩ := hd K ((h1 K).1 hk)
  exact ⟨cx.mute, v, h.mute, hv, fun K' hK => (h2 K').2 (hv' K' hK)⟩
 have cal : ∀ (f' : FuncId) (as : List AV), callA cx st f' as (fun st res => K (putRes st o.dst res)) → ∃ args res s, CxOk P (cx.fix f' args res) ∧ K s ∧ ∀ K' : St → Prop, K' s → callA (cx.fix f' args res) st f' as (fun st res => K' (putRes st o.dst res)) := by
  intro f' as hk
  unfold callA at hk
  cases hb : cx.bor f' with
  | true =>
   rw [hb, cond_true] at hk
   obtain ⟨res, hj, hok⟩ := h.det _ _ _ hk
   obtain ⟨h1, h2⟩ := flatsO_out hj
   refine ⟨as.map (AV.argS st), res, _, h.fix hk hok, h2, fun K' hK => ?_⟩
   unfold callA
   rw [show (cx.fix f' (as.map (AV.argS st)) res).bor f' = true from hb]
   exact ⟨rfl, rfl, flatsO_eq (res := res) (fun _ => hK) hj⟩
  | false =>
   rw [hb, cond_false] at hk
   obtain ⟨res, hj, hok⟩ := h.det _ _ _ hk
   refine ⟨as.map (AV.arg st.hp), res, _, h.fix hk hok, hj, fun K' hK => ?_⟩
   unfold callA
   rw [show (cx.fix f' (as.map (AV.arg st.hp)) res).bor f' = false from hb]
   exact ⟨rfl, rfl, hK⟩
 have pv : ∀ {G : (AV0 → Prop) → Prop} (d : Option Tmp), DetK G → DetK (fun K : St → Prop => G fun v => K (st.put d (.v v))) := fun d hg => DetK.bind (G := fun v K => K (st.put d (AV.v v))) hg (fun v => DetK.one _)
 cases ho : o.op with
 | move x => exact plain (F := fun K => K (st.put o.dst (opA cx st o.type x))) (fun K => by unfold aop; rw [ho]) (fun K => by unfold aop; rw [ho]; exact Iff.rfl) (DetK.one _)
 | assign x =>
  refine plain (fun K => by unfold aop; rw [ho]) (fun K => by unfold aop; rw [ho]; exact Iff.rfl) ?_
  dsimp only
  cases o.dst with
  | none => exact DetK.one _
  | some d =>
   cases x with
   | tmp i =>
    simp only
    generalize st.get i = q
    rcases q with (_ | id | _ | _ | _ | _ | _ | _ | _ | _ | _ | _ | _ | _ | _ | _) | l
    all_goals try exact DetK.one _
    refine DetK.cond (DetK.one _) ?_
    generalize fnd id st.hp = r
    rcases r with _ | (⟨_, _, _⟩ | ⟨_, _, _⟩)
    · exact DetK.nil
    · exact DetK.nil
    · exact DetK.stat (DetK.one _)
   | const c =>
    simp only
    refine DetK.cond ?_ (DetK.one _)
    intro K hk
    split at hk
    · rename_i e t hT
      exact ⟨_, hk, fun K' hk' => by first | exact hk' | (simp only [hT]; exact hk')⟩
    · exact hk.elim
   | global g => exact DetK.one _
   | func f => exact DetK.one _
 | pick c a b =>
  refine plain (fun K => by unfold aop; rw [ho]) (fun K => by unfold aop; rw [ho]; exact Iff.rfl) ?_
  dsimp only
  generalize opA cx st 0 c = q
  rcases q with (⟨t, x⟩ | _ | _ | _ | _ | _ | _ | _ | _ | _ | _ | _ | _ | _ | _ | _) | l <;> try exact DetK.nil
  cases t <;> first | exact DetK.br (DetK.one _) (DetK.one _) | exact DetK.nil
 | alloc T =>
  refine plain (fun K => by unfold aop; rw [ho]) (fun K => by unfold aop; rw [ho]; exact Iff.rfl) ?_
  dsimp only
  cases o.dst with
  | none => exact DetK.nil
  | some d => cases hT : cx.ty T with
   | none => simp only; exact DetK.nil
   | some t => simp only; exact DetK.one _
 | box T x =>
  refine plain (fun K => by unfold aop; rw [ho]) (fun K => by unfold aop; rw [ho]; exact Iff.rfl) ?_
  dsimp only
  cases o.dst with
  | none => exact DetK.nil
  | some d =>
   intro K hk
   simp only at hk ⊢
   split at hk
   · rename_i t t' y rs hT hx
     split at hk
     · rename_i z hz
       obtain ⟨h1, hk⟩ := stat_out hk
       exact ⟨_, hk, fun K' hk' => by simp only [hz, h1]; exact hk'⟩
     · exact hk.elim
   · exact DetK.bind (G := fun (p : (t : Ty) × t.D) K => K ((freezes st (opA cx st T x).ids).mk_ d (.box T p.1 p.2) (.ptr d 0))) (det_box (cx := cx) (st := st) (T := T) (a := opA cx st T x)) (fun p => DetK.one _) K hk
 | build T parts =>
  refine plain (fun K => by unfold aop; rw [ho]) (fun K => by unfold aop; rw [ho]; exact Iff.rfl) ?_
  dsimp only
  cases hT : cx.ty T with
  | none => simp only; exact DetK.nil
  | some t =>
   simp only
   refine DetK.cond ?_ (by
    generalize arrV st parts.toList t = qa
    cases qa with
    | none => exact DetK.nil
    | some v => exact DetK.one _)
   generalize fills t t.zero (roP st.hp (partsF st t parts.toList)) = q
   generalize zrow cx.ty (cx.hz (o.dst.getD 0)) st = qz
   cases q with
   | none =>
    cases qz with
    | none => exact DetK.nil
    | some st1 =>
     dsimp only
     generalize recA t st1.hp t.zero (zrs (cx.hz (o.dst.getD 0))) (partsF st1 t parts.toList) = q2
     cases q2 with
     | none => exact DetK.nil
     | some x => exact DetK.stat (DetK.one _)
   | some x => exact DetK.one _
 | buildSlice T n parts =>
  refine plain (fun K => by unfold aop; rw [ho]) (fun K => by unfold aop; rw [ho]; exact Iff.rfl) ?_
  dsimp only
  cases o.dst with
  | none => exact DetK.nil
  | some d =>
   cases hT : cx.ty T with
   | none => simp only; exact DetK.nil
   | some t =>
    cases t <;> try exact DetK.nil
    rename_i e t
    simp only
    generalize fillL t (List.replicate n t.zero) (roP st.hp (partsL st t parts.toList)) = q
    cases q with
    | none => exact DetK.nil
    | some x => exact DetK.stat (DetK.one _)
 | load T a => exact plain (fun K => by unfold aop; rw [ho]) (fun K => by unfold aop; rw [ho]; exact Iff.rfl) (det_one fun x => pv _ (det_load (cx := cx) (st := st) (T := T) (a := x)))
 | store T a x =>
  refine plain (fun K => by unfold aop; rw [ho]) (fun K => by unfold aop; rw [ho]; exact Iff.rfl) ?_
  dsimp only
  generalize holN cx st T (opA cx st 0 a) x = q
  cases q with
  | some p => obtain ⟨k, e, t⟩ := p; exact DetK.stat (DetK.one _)
  | none =>
   dsimp only
   generalize holQ cx st T (opA cx st 0 a) (opA cx st T x) = q
   cases q with
   | some p => obtain ⟨k, v⟩ := p; exact DetK.one _
   | none =>
    dsimp only
    generalize isOp (opA cx st 0 a) = q
    cases q with
    | true => exact DetK.bind (F := storeO cx st T (opA cx st 0 a) (opA cx st T x)) (G := fun s K => K (s.put o.dst (.v .un))) det_storeO (fun s => DetK.one _)
    | false => exact det_one fun a => DetK.bind (G := fun s K => K (s.put o.dst (.v .un))) (det_store (cx := cx) (st := freezes st (opA cx st T x).ids) (T := T) (a := a) (x := (opA cx st T x).ro st.hp)) (fun s => DetK.one _)
 | nilCheck x =>
  refine plain (fun K => by unfold aop; rw [ho]) (fun K => by unfold aop; rw [ho]; exact Iff.rfl) (det_one fun a => ?_)
  cases a <;> first | exact DetK.one _ | exact DetK.nil | skip
  rename_i i f
  dsimp only
  generalize fnd i st.hp = r
  rcases r with _ | (⟨_, _, _⟩ | ⟨_, _, _⟩)
  · exact DetK.nil
  · exact DetK.one _
  · exact DetK.nil
 | binOp op T x y T' => exact plain (fun K => by unfold aop; rw [ho]) (fun K => by unfold aop; rw [ho]; exact Iff.rfl) (det_one fun x => det_one fun y => pv _ (det_binQ (cx := cx) (hp := st.hp) (T := T) (op := op) (x := x) (y := y)))
 | unOp op T x => exact plain (fun K => by unfold aop; rw [ho]) (fun K => by unfold aop; rw [ho]; exact Iff.rfl) (det_one fun x => pv _ (det_unA (op := op) (x := x)))
 | convert S T x =>
  refine plain (fun K => by unfold aop; rw [ho]) (fun K => by unfold aop; rw [ho]; exact Iff.rfl) ?_
  dsimp only
  have old : DetK fun K => one (opA cx st S x) fun x => convA cx S T (x.ro st.hp) fun v => K (st.put o.dst (.v v)) := det_one fun x => pv _ (det_conv (cx := cx) (S := S) (T := T) (a := x.ro st.hp))
  unfold markA
  generalize opA cx st S x = v at old ⊢
  rcases v with (_ | id | _ | _ | _ | _ | _ | _ | _ | _ | _ | _ | _ | _ | _ | _) | _ <;> try exact old
  dsimp only
  cases Nat.beq S T with
  | false => exact old
  | true =>
   dsimp only [cond_true]
   generalize cx.ty S = q
   generalize fnd id st.hp = r
   split
   · split
     · exact DetK.and (DetK.one _)
     · exact DetK.nil
   · exact DetK.nil
 | makeSlice T l c =>
  refine plain (fun K => by unfold aop; rw [ho]) (fun K => by unfold aop; rw [ho]; exact Iff.rfl) ?_
  dsimp only
  intro K hk
  split at hk
  · rename_i d e t k n k' m hd hT hl hc
    exact ⟨_, hk.2, fun K' hk' => by first | exact ⟨hk.1, hk'⟩ | (simp only [hd, hT, hl, hc]; exact ⟨hk.1, hk'⟩)⟩
  · exact hk.elim
 | slice T x lo hi mx =>
  cases mx with
  | none =>
   refine plain (fun K => by unfold aop; rw [ho]) (fun K => by unfold aop; rw [ho]; exact Iff.rfl) ?_
   dsimp only
   refine DetK.cond (det_one fun x => det_ars (cx := cx) (st := st) (T := T) (R := o.type) (b := cx.win (o.dst.getD 0)) (d := o.dst) (a := x)) (det_one fun x => ?_)
   cases winQ (cx.win (o.dst.getD 0)) x with
   | some id => exact pv _ (det_sub (cx := cx) (st := st) (T := T) (id := id) (lo := lo.map fun l => (opA cx st 0 l).ro st.hp) (hi := hi.map fun h => (opA cx st 0 h).ro st.hp))
   | none => exact DetK.bind (G := fun v K => K ((freezes st x.ids).put o.dst (.v v))) (det_slice (cx := cx) (T := T) (a := x.ro st.hp) (lo := lo.map fun l => (opA cx st 0 l).ro st.hp) (hi := hi.map fun h => (opA cx st 0 h).ro st.hp)) (fun v => DetK.one _)
  | some _ => unfold aop at hk; rw [ho] at hk; exact hk.elim
 | fieldAddr S x f => exact plain (fun K => by unfold aop; rw [ho]) (fun K => by unfold aop; rw [ho]; exact Iff.rfl) (det_one fun x => pv _ (det_fieldAddr (cx := cx) (st := st) (S := S) (a := x) (f := f)))
 | field S x f => exact plain (fun K => by unfold aop; rw [ho]) (fun K => by unfold aop; rw [ho]; exact Iff.rfl) (det_one fun x => pv _ (det_field (cx := cx) (S := S) (a := x) (f := f)))
 | indexAddr T x i => exact plain (fun K => by unfold aop; rw [ho]) (fun K => by unfold aop; rw [ho]; exact Iff.rfl) (det_one fun x => det_one fun i => pv _ (det_indexAddr (cx := cx) (st := st) (T := T) (a := x) (i := i)))
 | index T x i => exact plain (fun K => by unfold aop; rw [ho]) (fun K => by unfold aop; rw [ho]; exact Iff.rfl) (det_one fun x => det_one fun i => pv _ (det_index (cx := cx) (T := T) (a := x) (i := i)))
 | makeFunc fn first captured =>
  refine plain (fun K => by unfold aop; rw [ho]) (fun K => by unfold aop; rw [ho]; exact Iff.rfl) ?_
  dsimp only
  generalize first.toList = l1
  generalize captured.toList = l2
  cases fn <;> try exact DetK.nil
  rename_i f
  rcases l1 with _ | ⟨s, l1⟩ <;> rcases l2 with _ | ⟨x, _ | ⟨z, l2⟩⟩ <;> first | exact DetK.nil | skip
  dsimp only
  generalize opA cx st 0 x = q
  intro K hk
  split at hk
  · rename_i id
    split at hk
    · rename_i T t y hf
      exact ⟨_, hk, fun K' hk' => by simp only [hf]; exact hk'⟩
    · exact hk.elim
  · exact ⟨_, hk, fun K' hk' => hk'⟩
  · exact hk.elim
 | extract x i =>
  refine plain (fun K => by unfold aop; rw [ho]) (fun K => by unfold aop; rw [ho]; exact Iff.rfl) ?_
  dsimp only
  generalize opA cx st 0 x = q
  cases q with
  | v a => exact DetK.nil
  | tup l =>
   cases hi : l[i]? with
   | none => simp only [hi]; exact DetK.nil
   | some y => simp only [hi]; exact DetK.one _
 | call c =>
  cases hc : c.callee with
  | value f =>
   unfold aop at hk; rw [ho] at hk; simp only [hc] at hk
   split at hk
   · rename_i f' hf
     split at hk
     · rename_i as has
       split at hk
       · rename_i S hsc
         unfold scallA scallB at hk
         split at hk
         · rename_i ρ hρ
           obtain ⟨hok, hk⟩ := stat_out hk
           unfold Sk.as at hk
           split at hk
           · rename_i x hx
             obtain ⟨hna, hsc⟩ := scOf_some hsc
             have hS := h.sfn f' S hsc
             obtain ⟨i, y, hy, hfy⟩ := hS.det x _ hk
             obtain ⟨hok2, hy⟩ := stat_out hy
             refine ⟨cx.fixS f' S x i y, _, h.fixS hS hfy, hy, fun K' hK => ?_⟩
             unfold aop; rw [ho]
             simp only [hc, show opA (cx.fixS f' S x i y) st 0 f = _ from hf, show argsA (cx.fixS f' S x i y) st c.args.toList c.argTypes.toList = _ from (argsA_cx (cx := cx) (cx' := cx.fixS f' S x i y) rfl).trans has, show scOf ((cx.fixS f' S x i y).scall f') as = some ⟨S.inn, S.out, fun x' J' => x' = x ∧ J' i y⟩ from by unfold scOf; rw [hna]; simp [Cx.fixS]]
             unfold scallA scallB
             rw [show bindS (⟨S.inn, S.out, fun x' J' => x' = x ∧ J' i y⟩ : SFn).inn (freezes st (idsK S.inn.env 0 as)) (roK S.inn.env st.hp 0 as) = some ρ from hρ]
             simp only
             rw [show okI (⟨S.inn, S.out, fun x' J' => x' = x ∧ J' i y⟩ : SFn).inn ρ (roK S.inn.env st.hp 0 as).length = true from hok]
             show Sk.as S.inn (subS S.inn (freezes st (idsK S.inn.env 0 as)) ρ (roK S.inn.env st.hp 0 as)) _
             unfold Sk.as
             rw [hx]
             refine ⟨rfl, ?_⟩
             show stat (okS (S.io i) ρ (newP (cx.sp (o.dst.getD 0)) ρ (S.out i).hp) (freezes st (idsK S.inn.env 0 as)).n) _
             rw [hok2]
             exact hK
           · exact hk.elim
         · exact hk.elim
       rename_i hsc
       split at hk
       · rename_i hr
         obtain ⟨args, res, s, hok, hs, hF⟩ := cal f' as hk
         refine ⟨cx.fix f' args res, s, hok, hs, fun K' hK => ?_⟩
         unfold aop; rw [ho]; simp only [hc, show opA (cx.fix f' args res) st 0 f = _ from hf, show argsA (cx.fix f' args res) st c.args.toList c.argTypes.toList = _ from (argsA_cx (cx := cx) (cx' := cx.fix f' args res) rfl).trans has, show (cx.fix f' args res).rowf f' = none from hr, show scOf ((cx.fix f' args res).scall f') as = none from hsc]
         exact hF K' hK
       · rename_i k e d hr hd
         obtain ⟨s, hs, hF⟩ := det_row K hk
         refine ⟨cx.mute, s, h.mute, hs, fun K' hK => ?_⟩
         unfold aop; rw [ho]; simp only [hc, show opA cx.mute st 0 f = _ from hf, show argsA cx.mute st c.args.toList c.argTypes.toList = _ from (argsA_cx (cx := cx) (cx' := cx.mute) rfl).trans has, show cx.mute.rowf f' = _ from hr, hd, show scOf (cx.mute.scall f') as = none from hsc]
         exact hF K' hK
       · exact hk.elim
     · exact hk.elim
   · rename_i f' t y hf
     split at hk
     · rename_i as has
       obtain ⟨args, res, s, hok, hs, hF⟩ := cal f' (as ++ [.v (.rptr t y)]) hk
       refine ⟨cx.fix f' args res, s, hok, hs, fun K' hK => ?_⟩
       unfold aop; rw [ho]; simp only [hc, show opA (cx.fix f' args res) st 0 f = _ from hf, show argsA (cx.fix f' args res) st c.args.toList c.argTypes.toList = _ from (argsA_cx (cx := cx) (cx' := cx.fix f' args res) rfl).trans has]
       exact hF K' hK
     · exact hk.elim
   · exact hk.elim
  | invoke r mm => unfold aop at hk; rw [ho] at hk; simp only [hc] at hk
  | builtin b =>
   obtain ⟨callee, args, argTypes⟩ := c
   simp only at hc
   subst hc
   cases b with
   | len =>
    refine plain (fun K => by unfold aop; rw [ho]) (fun K => by unfold aop; rw [ho]; exact Iff.rfl) ?_
    dsimp only
    generalize args.toList = l1
    generalize argTypes.toList = l2
    rcases l1 with _ | ⟨x, _ | ⟨y, l1⟩⟩ <;> rcases l2 with _ | ⟨T, _ | ⟨T', l2⟩⟩ <;> first | exact DetK.nil | exact det_one fun x => pv _ (det_len (cx := cx) (T := T) (x := x) (hp := st.hp))
   | append =>
    refine plain (fun K => by unfold aop; rw [ho]) (fun K => by unfold aop; rw [ho]; exact Iff.rfl) ?_
    dsimp only
    generalize args.toList = l1
    generalize argTypes.toList = l2
    cases o.dst with
    | none => rcases l1 with _ | ⟨s, _ | ⟨x, _ | ⟨z, l1⟩⟩⟩ <;> rcases l2 with _ | ⟨T, _ | ⟨T', _ | ⟨z, l2⟩⟩⟩ <;> exact DetK.nil
    | some d =>
     rcases l1 with _ | ⟨s, _ | ⟨x, _ | ⟨z, l1⟩⟩⟩ <;> rcases l2 with _ | ⟨T, _ | ⟨T', _ | ⟨z, l2⟩⟩⟩ <;> first | exact DetK.nil | skip
     refine det_one fun x => DetK.bind (G := fun x K => match isNil s with | true => appendA cx st T d none x K | false => one (opA cx st T s) fun s => appendA cx st T d (some s) x K) (det_src (cx := cx) (hp := st.hp) (T := T) (T' := T') (x := x)) (fun x => ?_)
     cases isNil s
     · exact det_one fun s => det_append (cx := cx) (st := st) (T := T) (d := d) (s := some s) (x := x)
     · exact det_append (cx := cx) (st := st) (T := T) (d := d) (s := none) (x := x)
   | copy =>
    refine plain (fun K => by unfold aop; rw [ho]) (fun K => by unfold aop; rw [ho]; exact Iff.rfl) ?_
    dsimp only
    generalize args.toList = l1
    generalize argTypes.toList = l2
    rcases l1 with _ | ⟨s, _ | ⟨x, _ | ⟨z, l1⟩⟩⟩ <;> rcases l2 with _ | ⟨T, _ | ⟨T', _ | ⟨z, l2⟩⟩⟩ <;> first | exact DetK.nil | skip
    exact det_one fun d => det_one fun s => DetK.bind (G := fun (p : St × Int) K => K (p.1.put o.dst (.v (.tv (.int .i64) p.2)))) (det_copy (cx := cx) (st := st) (T := T) (d := d) (s := s.pk st.hp)) (fun p => DetK.one _)
   | max =>
    refine plain (fun K => by unfold aop; rw [ho]) (fun K => by unfold aop; rw [ho]; exact Iff.rfl) ?_
    dsimp only
    generalize args.toList = l1
    rcases l1 with _ | ⟨x, _ | ⟨y, _ | ⟨z, l1⟩⟩⟩ <;> first | exact DetK.nil | skip
    refine det_one fun x => det_one fun y => ?_
    cases x <;> try exact DetK.nil
    rename_i t1 x
    cases y <;> cases t1 <;> try exact DetK.nil
    rename_i t2 y k
    cases t2 <;> first | exact DetK.nil | exact DetK.stat (DetK.one _)
   | min =>
    refine plain (fun K => by unfold aop; rw [ho]) (fun K => by unfold aop; rw [ho]; exact Iff.rfl) ?_
    dsimp only
    generalize args.toList = l1
    rcases l1 with _ | ⟨x, _ | ⟨y, _ | ⟨z, l1⟩⟩⟩ <;> first | exact DetK.nil | skip
    refine det_one fun x => det_one fun y => ?_
    cases x <;> try exact DetK.nil
    rename_i t1 x
    cases y <;> cases t1 <;> try exact DetK.nil
    rename_i t2 y k
    cases t2 <;> first | exact DetK.nil | exact DetK.stat (DetK.one _)
   | _ => unfold aop at hk; rw [ho] at hk; exact hk.elim
 | _ => unfold aop at hk; rw [ho] at hk; exact hk.elim
theorem aop_run (h : CxOk P cx) {K : St → Prop} (hk : aop cx o K st) : ∃ st', K st' ∧
 ∀ (w0 : Bas) (ok0 : Nat → Prop) (a : Act) (w : World) (Q : Exit → Act → World → Prop), RelE w0 ok0 st a w → o.wp P a w (RelE w0 ok0 st') Q := by
 obtain ⟨cx1, s, h1, hs, hF⟩ := aop_fix h hk
 refine ⟨s, hs, fun w0 ok0 a w Q ⟨m, ok, r, f⟩ => ?_⟩
 refine Oper.wp_mono' (fun a' w' ⟨s', hs', hr⟩ => ?_) (aop_sound ⟨h1, r, f⟩ (hF (fun s' => s' = s) rfl))
 subst hs'; exact hr
end
end Go.Iv
