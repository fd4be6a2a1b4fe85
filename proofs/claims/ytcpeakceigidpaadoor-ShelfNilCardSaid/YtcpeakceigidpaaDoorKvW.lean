/- Pieces of code in a round of a range over a function: what holds of them elsewhere holds there. -/
import Derived.Test.YtcpeakceigidpaaDoorKvU
import Derived.OrdersIn
import Derived.TacticsIn
import Derived.RangeFuncLeaves
import Derived.RangeFuncKeeps
set_option linter.all false
namespace Go.Iv
open Go.RowKit
def noDef : List Oper → Bool
 | [] => true
 | o :: r => match o.op with
  | .defer _ => false
  | _ => noDef r
def inB : Code → Bool
 | .region _ ops _ => noDef ops.toList
 | .seq x y => inB x && inB y
 | .cond _ x y => inB x && inB y
 | .block _ c => inB c
 | .loop c => inB c
 | .rangeFunc _ _ _ _ => false
 | _ => true
def Wd (b : Bool) (F : Fence) : Prop := F = Fence.wide ∨ ((∃ l, F = Fence.wide.inRound l) ∧ b = true)
theorem Wd.sub {b b' : Bool} {F : Fence} (h : Wd b F) (k : b = true → b' = true) : Wd b' F := h.imp id fun h => ⟨h.1, k h.2⟩
theorem Wd.tt {b : Bool} {F : Fence} (h : Wd b F) : Wd true F := h.sub fun _ => rfl
theorem Wd.nd {b : Bool} {F : Fence} (h : Wd b F) : F.round = none ∨ b = true := h.elim (fun h => by rw [h]; exact .inl rfl) fun h => .inr h.2
theorem Wd.l {x y : Bool} {F : Fence} (h : Wd (x && y) F) : Wd x F := h.sub fun h => by simp only [Bool.and_eq_true] at h; exact h.1
theorem Wd.r {x y : Bool} {F : Fence} (h : Wd (x && y) F) : Wd y F := h.sub fun h => by simp only [Bool.and_eq_true] at h; exact h.2
theorem Wd.wide {b : Bool} : Wd b Fence.wide := .inl rfl
theorem noDef_out : ∀ {l : List Oper}, noDef l = true → ∀ o ∈ l, ∀ c, o.op ≠ .defer c
 | [], _, o, h, _ => by cases h
 | p :: r, hn, o, h, c => by
  have h2 : noDef r = true := by
   unfold noDef at hn
   split at hn
   · cases hn
   · exact hn
  rcases List.mem_cons.1 h with rfl | h
  · intro e
    unfold noDef at hn
    rw [e] at hn
    cases hn
  · exact noDef_out h2 o h c
section
variable {F : Fence} {n : Nat} {P : Program} {ops : Array Oper} {Q : Exit → Act → World → Prop} {a : Act} {w : World} {o : Oper}
theorem callsIn_of (hF : Wd true F) {f : FuncId} {args : Array Value} {R : Ending → World → Prop} (h : Calls P f args w R) : CallsIn F n P f args w R := by
 rcases hF with rfl | ⟨⟨l, rfl⟩, _⟩
 · exact callsIn_wide.2 h
 · exact (callsIn_wide (n := n)).2 h
theorem rowsIn_of (hF : Wd true F) {row : String} {args : Array Value} {R : Value → World → Prop} (h : Rows P row args w R) : RowsIn F n P row args w R := by
 have key : RowsIn Fence.wide n P row args w R := fun c cs _ => by
  obtain ⟨v, w', hr, hs⟩ := h c cs
  exact ⟨v, w', hr, stepsIn_wide.2 hs⟩
 rcases hF with rfl | ⟨⟨l, rfl⟩, _⟩
 · exact key
 · exact key
theorem wpIn_of_op (hF : Wd true F) (hd : F.round = none ∨ ∀ c, o.op ≠ .defer c) {next : Act → World → Prop} (h : o.wp P a w next Q) : o.wpIn F n P a w next Q := by
 have hfn : ∀ f, F.fn f := by
  rcases hF with rfl | ⟨⟨l, rfl⟩, _⟩ <;> exact fun _ => trivial
 have hdp : F.depth.isSome = true → 1 ≤ n := by
  rcases hF with rfl | ⟨⟨l, rfl⟩, _⟩ <;> intro h <;> cases h
 refine ⟨fun f _ => hfn f, ?_⟩
 have e : o.semAt F.round a.eval = execOp a.eval o := by
  rcases hd with hd | hd
  · rw [hd]; rfl
  · exact Oper.semAt_eq _ _ _ hd
 rw [e]
 unfold Oper.wp at h
 revert h
 generalize (execOp a.eval o).run P w = res
 intro h
 unfold Oper.upon at h
 split at h
 · exact h
 · exact h
 · exact h
 · exact ⟨hdp, callsIn_of hF h⟩
 · exact ⟨hdp, rowsIn_of hF h⟩
 · exact h
 · exact h.elim
theorem wpListIn_of (hF : Wd true F) (hlo : ¬ LetsOut Q) : ∀ (l : List Oper) (a : Act) (w : World), (F.round = none ∨ noDef l = true) → wpList P ops Q l a w → wpListIn F n P ops Q l a w
 | [], a, w, _, h => h
 | o :: r, a, w, hd, h => by
  have hfn : ∀ f, F.fn f := by
   rcases hF with rfl | ⟨⟨l, rfl⟩, _⟩ <;> exact fun _ => trivial
  have hd1 : F.round = none ∨ ∀ c, o.op ≠ .defer c := hd.imp id fun h => noDef_out h o (List.mem_cons_self ..)
  have hd2 : F.round = none ∨ noDef r = true := hd.imp id fun h => by
   unfold noDef at h
   split at h
   · cases h
   · exact h
  unfold wpList at h
  unfold wpListIn
  by_cases hw : Region.wanted o (yielded ops a.tmps) = true
  · rw [if_pos hw] at h ⊢
    rcases h with h | h
    · exact wpIn_of_op hF hd1 (Oper.wp_mono (fun a' w' h' => wpListIn_of hF hlo r a' w' hd2 h') h)
    · exact (hlo h.2).elim
  · rw [if_neg hw] at h ⊢
    exact ⟨fun f _ => hfn f, wpListIn_of hF hlo r _ _ hd2 h⟩
theorem wpAnyIn_of (hF : Wd true F) (hd : F.round = none ∨ noDef ops.toList = true) (hlo : ¬ LetsOut Q) {md : Region.Mode} : ∀ (N : Nat) (listed : Array Bool) (a : Act) (w : World), wpAny P md ops Q N listed a w → wpAnyIn F n P md ops Q N listed a w
 | 0, _, _, _, h => h
 | N + 1, listed, a, w, h => by
  have hfn : ∀ f, F.fn f := by
   rcases hF with rfl | ⟨⟨l, rfl⟩, _⟩ <;> exact fun _ => trivial
  refine ⟨h.1, fun i hi => ?_⟩
  have h := h.2 i hi
  unfold wpOp at h
  unfold wpOpIn
  split
  · rename_i he
    rw [he] at h
    exact wpAnyIn_of hF hd hlo N _ _ _ h
  · rename_i o he
    rw [he] at h
    simp only at h
    by_cases hw : Region.wanted o (yielded ops a.tmps) = true
    · rw [if_pos hw] at h ⊢
      rcases h with h | h
      · refine wpIn_of_op hF (hd.imp id fun hn => noDef_out hn o ?_) (Oper.wp_mono (fun a' w' h' => wpAnyIn_of hF hd hlo N _ a' w' h') h)
        have := Array.mem_of_getElem? he
        simpa using this
      · exact (hlo h.2).elim
    · rw [if_neg hw] at h ⊢
      exact ⟨fun f _ => hfn f, wpAnyIn_of hF hd hlo N _ _ _ h⟩
end
section
variable [GL] {P : Program} {w0 : Bas} {w : World} {m : Nat → Value} {ok : Nat → Prop} {st : St} {a : Act}
theorem Rel.unmark (r : Rel w0 m ok st a w) {D : Nat} {Ds : List Nat} (hD : a.defers = mkC D :: Ds.map mkC) (hn : (D :: Ds).Nodup) (hh : ∀ x ∈ D :: Ds, w0.fr x ∧ ¬ ok x ∧ w.heap[x]? = some (.deferred (some []))) :
 Rel w0 m ok st { a with defers := Ds.map mkC } (w.putObj D (.deferred none)) := by
 obtain ⟨hf, ho, hd⟩ := hh D (List.mem_cons_self ..)
 have hsz : (w.putObj D (.deferred none)).heap.size = w.heap.size := by simp [World.putObj]
 have r1 : Rel w0 m ok st { a with defers := [] } w := ⟨Marks.nil, r.size, r.env, r.ob, r.sep, r.inj, r.okb, r.keep, r.pins, r.rfs⟩
 have r2 := r1.world (w' := w.putObj D (.deferred none)) (ok' := ok) (fun b hb => World.putObj_heap_other (fun e => ho (e ▸ hb)))
  (fun id o b hid hb => World.putObj_heap_other (fun e => r.noMark hid hb hd e.symm)) (by rw [hsz]; exact Nat.le_refl _)
  ⟨r.keep.os, r.keep.tape, r.keep.output, by rw [hsz]; exact r.keep.size, fun k hk hx => by
   rw [World.putObj_heap_other (Bas.no hk hx hf)]; exact r.keep.block k hk hx⟩ (fun _ h => h) (fun b hb => by rw [hsz]; exact r.okb b hb) (fun id o b hid hb => (r.sep id o b hid hb).1)
  (fun D' hm _ _ => by cases hm)
 have mk : Marks w0 (w.putObj D (.deferred none)) ok (Ds.map mkC) := by
  refine ⟨Ds, rfl, (List.nodup_cons.1 hn).2, fun x hx => ?_⟩
  obtain ⟨a1, a2, a3⟩ := hh x (List.mem_cons_of_mem _ hx)
  refine ⟨a1, a2, ?_⟩
  rw [World.putObj_heap_other (fun e => (List.nodup_cons.1 hn).1 (by rw [← e]; exact hx))]
  exact a3
 exact ⟨mk, r2.size, r2.env, r2.ob, r2.sep, r2.inj, r2.okb, r2.keep, r2.pins, r2.rfs⟩
theorem leaves_of {n : Nat} {fn : Func} {R : Ending → World → Prop} : ∀ (Ds : List Nat) {w : World} {a : Act}, Rel w0 m ok st a w → a.defers = Ds.map mkC → Ds.Nodup → (∀ x ∈ Ds, w0.fr x ∧ ¬ ok x ∧ w.heap[x]? = some (.deferred (some []))) →
 (∀ w', Rel w0 m ok st { a with defers := [] } w' → ∃ v, (results fn a.tmps).run P w' = .ok v w' ∧ R (.returned v) w') → LeavesInM Fence.wide n P fn a.tmps R (Ds.map mkC) .returning w
 | [], w, a, r, hD, _, _, fin => by
  refine fin w ?_
  exact ⟨Marks.nil, r.size, r.env, r.ob, r.sep, r.inj, r.okb, r.keep, r.pins, r.rfs⟩
 | D :: Ds, w, a, r, hD, hn, hh, fin => by
  refine ⟨by simp, .inl ⟨D, _, rfl, run_takeDeferred (hh D (List.mem_cons_self ..)).2.2, ?_⟩⟩
  have r2 := r.unmark hD hn hh
  refine leaves_of (a := { a with defers := Ds.map mkC }) Ds r2 rfl (List.nodup_cons.1 hn).2 (fun x hx => ?_) fin
  obtain ⟨a1, a2, a3⟩ := hh x (List.mem_cons_of_mem _ hx)
  refine ⟨a1, a2, ?_⟩
  rw [World.putObj_heap_other (fun e => (List.nodup_cons.1 hn).1 (by rw [← e]; exact hx))]
  exact a3
theorem Rel.leaves {n : Nat} {fn : Func} {R : Ending → World → Prop} (r : Rel w0 m ok st a w) (fin : ∀ w', Rel w0 m ok st { a with defers := [] } w' → ∃ v, (results fn a.tmps).run P w' = .ok v w' ∧ R (.returned v) w') : LeavesInM Fence.wide n P fn a.tmps R a.defers .returning w := by
 obtain ⟨Ds, e, hn, hh⟩ := r.defers
 rw [e]
 exact leaves_of Ds r e hn hh fin
end
end Go.Iv
