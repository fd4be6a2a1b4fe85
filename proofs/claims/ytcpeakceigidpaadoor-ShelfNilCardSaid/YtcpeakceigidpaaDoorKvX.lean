/- A range over a function whose items are known: the law. -/
import Derived.Test.YtcpeakceigidpaaDoorKvW
import Derived.RangeFuncNested
set_option linter.all false
namespace Go.Iv
open Go.RowKit
def rndPost (l D : Nat) (r : Loop) (okS : Nat → Prop) (I : World → Prop) (Ix : Code → World → Prop) (A : World) : Exit → Act → World → Prop
 | .normal, _, W => (W.heap[l]? = some (.loop { r with state := .busy }) ∧ W.heap[D]? = some (.deferred (some []))) ∧ (∀ b, okS b → W.heap[b]? = A.heap[b]?) ∧ I W
 | .ret, _, W => (W.heap[l]? = some (.loop { r with state := .busy }) ∧ W.heap[D]? = some (.deferred (some []))) ∧ Ix .ret W
 | .exit i, _, W => (W.heap[l]? = some (.loop { r with state := .busy }) ∧ W.heap[D]? = some (.deferred (some []))) ∧ Ix (.exit i) W
 | _, _, _ => False
theorem rf_law {P : Program} {n : Nat} {g : Operand} {ps : Array Tmp} {assign body : Code} {Q : Exit → Act → World → Prop} {a : Act} {w : World} {gf : FuncId} {lb : Array Value} {xs : List (Array Value)} {okS : Nat → Prop}
 (hg : a.eval g = .func (.func gf) #[] lb) (eg : ∀ args w, (callFunc gf args).run P w = .ok (.enter gf args) w) (hps : ∀ x ∈ xs, x.size = ps.size) (hit : ItG P gf lb xs okS w)
 (hokS : ∀ b, okS b → b < w.heap.size)
 (I : Nat → World → Prop) (Ix : Code → World → Prop)
 (hI : ∀ k A o, I k A → (∃ r, A.heap[w.heap.size + 1]? = some (.loop r)) → I k (A.putObj (w.heap.size + 1) o)) (hIg : ∀ k A B, I k A → Below A.heap.size A B → I k B)
 (hX : ∀ c A o, Ix c A → (∃ r, A.heap[w.heap.size + 1]? = some (.loop r)) → Ix c (A.putObj (w.heap.size + 1) o)) (hXg : ∀ c A B, Ix c A → Below A.heap.size A B → Ix c B)
 (h0 : I 0 w)
 (hround : ∀ (k : Nat) (A : World) (r : Loop) (hk : k < xs.length), I k A → A.heap[w.heap.size + 1]? = some (.loop r) → A.heap[w.heap.size]? = some (.deferred (some [])) →
  assign.wpIn (Fence.wide.inRound (w.heap.size + 1)) n P (Exit.then (fun a₁ A₁ => A₁.heap[w.heap.size + 1]? = some (.loop r) ∧ (∀ b, okS b → A₁.heap[b]? = A.heap[b]?) ∧
   body.wpIn (Fence.wide.inRound (w.heap.size + 1)) n P (rndPost (w.heap.size + 1) w.heap.size r okS (I (k + 1)) Ix A) a₁ (A₁.putObj (w.heap.size + 1) (.loop { r with state := .busy }))) (fun _ _ _ => False))
   { tmps := (ps.zip xs[k]).foldl (fun t (p, v) => t.setIfInBounds p v) a.tmps, defers := [] } A)
 (hdone : ∀ W, I xs.length W → W.heap[w.heap.size]? = some (.deferred (some [])) → Q .normal { a with defers := mkC w.heap.size :: a.defers } W)
 (hstop : ∀ c W, Ix c W → W.heap[w.heap.size]? = some (.deferred (some [])) → c.wpIn Fence.wide n P Q { a with defers := mkC w.heap.size :: a.defers } W) :
 (Code.rangeFunc g ps assign body).wpIn Fence.wide n P Q a w := by
 refine wpIn_rangeFunc fun fn hfn => ?_
 obtain ⟨rec, hrec⟩ : ∃ rec : LoopState → Option Code → Loop, rec = fun st pe => { state := st, pending := pe, fn, tmps := a.tmps, params := ps, assign, body, defers := w.heap.size } := ⟨_, rfl⟩
 obtain ⟨W1, hW1⟩ : ∃ W1, (w.alloc (.deferred (some []))).alloc (.loop (rec .ready none)) = W1 := ⟨_, rfl⟩
 have hb1 : Below w.heap.size w W1 := by
  rw [← hW1]; exact ((Below.refl _ w).alloc (Nat.le_refl _) _).alloc (by simp) _
 have hL1 : W1.heap[w.heap.size + 1]? = some (.loop (rec .ready none)) := by
  rw [← hW1]; have := World.alloc_heap_new (w.alloc (.deferred (some []))) (.loop (rec .ready none)); rwa [World.size_alloc] at this
 have hD1 : W1.heap[w.heap.size]? = some (.deferred (some [])) := by
  rw [← hW1]; exact (Below.heap_alloc _ _ _ (by simp)).trans (World.alloc_heap_new w _)
 refine ⟨w.heap.size + 1, [mkC w.heap.size], W1, { target := .fn (.func gf) lb, args := #[.func (.yield (w.heap.size + 1)) #[] #[]] }, W1, gf, #[.func (.yield (w.heap.size + 1)) #[] #[]] ++ lb, W1, ?_, ?_, fun _ _ => trivial, ?_, (fun h => by cases h), ?_⟩
 · rw [← hW1, hrec]; exact run_enterLoop_outer _ _ _ _ _
 · simp only [resolve, hg]
   simp [go_sem]
 · simp [invoke, go_sem, eg]
 have hne : ∀ b, okS b → b ≠ w.heap.size + 1 := fun b hb e => by have := hokS b hb; omega
 have key := hit 0 (w.heap.size + 1)
  (fun k W => I k W ∧ W.heap[w.heap.size + 1]? = some (.loop (rec .ready none)) ∧ W.heap[w.heap.size]? = some (.deferred (some [])))
  (fun _ W => ∃ c, Ix c W ∧ W.heap[w.heap.size + 1]? = some (.loop (rec .done (some c))) ∧ W.heap[w.heap.size]? = some (.deferred (some [])))
  W1 hb1.size (fun b hb => hb1.block b (hokS b hb))
  (fun k A B ⟨h1, h2, h3⟩ hb => ⟨hIg k A B h1 hb, (hb.block _ (Array.getElem?_eq_some_iff.1 h2).1).trans h2, (hb.block _ (Array.getElem?_eq_some_iff.1 h3).1).trans h3⟩)
  (fun k A B ⟨c, h1, h2, h3⟩ hb => ⟨c, hXg c A B h1 hb, (hb.block _ (Array.getElem?_eq_some_iff.1 h2).1).trans h2, (hb.block _ (Array.getElem?_eq_some_iff.1 h3).1).trans h3⟩)
  ?_ ⟨hIg 0 w W1 h0 hb1, hL1, hD1⟩
 · refine CallsIn.mono (callsIn_of Wd.wide (callsIn_wide.1 key)) ?_
   rintro e W2 ⟨⟨v, rfl⟩, (⟨hi, hl, hd⟩ | ⟨_, c, hi, hl, hd⟩)⟩
   · refine ⟨none, _, by have := run_endLoop (P := P) hl (by rw [hrec]; simp); rw [hrec] at this; exact this, ?_⟩
     exact hdone _ (hI _ _ _ hi ⟨_, hl⟩) ((World.putObj_heap_other (by omega)).trans hd)
   · refine ⟨some c, _, by have := run_endLoop (P := P) hl (by rw [hrec]; simp); rw [hrec] at this; exact this, ?_⟩
     exact hstop c _ (hX _ _ _ hi ⟨_, hl⟩) ((World.putObj_heap_other (by omega)).trans hd)
 · rintro k A hk ⟨hi, hl, hd⟩
   have hy := run_yield (P := P) (args := xs[k]) hl (by rw [hrec]; exact hps _ (List.getElem_mem hk))
   rw [hrec] at hy
   refine ⟨fn, _, assign, body, hy, roundIn_of_wpIn trivial ?_⟩
   have hr := hround k A _ hk hi hl hd
   have hr' : assign.wpIn (Fence.wide.inRound (w.heap.size + 1)) 0 P _ _ A := fun b k' cs hro hb hrm => hr b k' cs hro hb (fun d hd => by cases hd)
   refine wpIn_mono hr' ?_
   rintro e a1 A1 h
   cases e with
   | normal =>
    obtain ⟨hl1, hok1, hbody⟩ := h
    refine ⟨_, run_beginRound hl1 (by rw [hrec]), ?_⟩
    have hbody' : body.wpIn (Fence.wide.inRound (w.heap.size + 1)) 0 P _ a1 _ := fun b k' cs hro hb hrm => hbody b k' cs hro hb (fun d hd => by cases hd)
    refine wpIn_mono hbody' ?_
    rintro e2 a2 W3 hp
    have fin : ∀ (jump : Option Code) (W3 : World), W3.heap[w.heap.size + 1]? = some (.loop { rec .ready none with state := .busy }) → W3.heap[w.heap.size]? = some (.deferred (some [])) →
     (Instr.endRound (w.heap.size + 1) jump).run P W3 = .ok (.bool jump.isNone) (W3.putObj (w.heap.size + 1) (.loop (rec (if jump.isNone then .ready else .done) jump))) ∧
     (W3.putObj (w.heap.size + 1) (.loop (rec (if jump.isNone then .ready else .done) jump))).heap[w.heap.size + 1]? = some (.loop (rec (if jump.isNone then .ready else .done) jump)) ∧
     (W3.putObj (w.heap.size + 1) (.loop (rec (if jump.isNone then .ready else .done) jump))).heap[w.heap.size]? = some (.deferred (some [])) := fun jump W3 hl3 hd3 => by
     have := run_endRound (P := P) jump hl3
     rw [hrec] at this ⊢
     exact ⟨this, World.putObj_heap_same (Array.getElem?_eq_some_iff.1 hl3).1, (World.putObj_heap_other (by omega)).trans hd3⟩
    cases e2 with
    | normal =>
     obtain ⟨⟨hl3, hd3⟩, hok3, hi3⟩ := hp
     obtain ⟨hr3, hl4, hd4⟩ := fin none W3 hl3 hd3
     exact ⟨_, _, hr3, .inl ⟨rfl, ⟨hI _ _ _ hi3 ⟨_, hl3⟩, hl4, hd4⟩, fun b hb => (World.putObj_heap_other (hne b hb)).trans (hok3 b hb)⟩⟩
    | ret =>
     obtain ⟨⟨hl3, hd3⟩, hi3⟩ := hp
     obtain ⟨hr3, hl4, hd4⟩ := fin (some .ret) W3 hl3 hd3
     exact ⟨_, _, hr3, .inr ⟨rfl, .ret, hX _ _ _ hi3 ⟨_, hl3⟩, hl4, hd4⟩⟩
    | exit i =>
     obtain ⟨⟨hl3, hd3⟩, hi3⟩ := hp
     obtain ⟨hr3, hl4, hd4⟩ := fin (some (.exit i)) W3 hl3 hd3
     exact ⟨_, _, hr3, .inr ⟨rfl, .exit i, hX _ _ _ hi3 ⟨_, hl3⟩, hl4, hd4⟩⟩
    | goto t => exact hp.elim
    | panic c => exact hp.elim
    | outgrown => exact hp.elim
   | exit i => exact h.elim
   | ret => exact h.elim
   | goto t => exact h.elim
   | panic c => exact h.elim
   | outgrown => exact h.elim
end Go.Iv
