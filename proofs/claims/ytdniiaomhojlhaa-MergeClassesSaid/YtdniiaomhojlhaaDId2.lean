/- chart.IDs, the second part: slices.Collect of the numbers. -/
import Derived.Shelf.SlIterI.Collect
import Derived.Maps.OwnIn
import Derived.Test.YtdniiaomhojlhaaDId1
namespace Go.Iw
open Go.Iv Go.Proofs Go.RowKit Go.Shelf
set_option linter.unusedVariables false
set_option linter.unusedSimpArgs false

/-- The loop's assignment, and its body. -/
def rfOf : Code → Option (Code × Code)
  | .rangeFunc _ _ x y => some (x, y)
  | .seq x y => match rfOf x with
    | some r => some r
    | none => rfOf y
  | .block _ x => rfOf x
  | _ => none
def apOf : Option Code → Code × Code
  | some c => (rfOf c).getD (.skip, .skip)
  | none => (.skip, .skip)
def apRec (ac : Code × Code) (fn : FuncId) (sv : Value) (Bs D : Nat) (st : LoopState) (pend : Option Code) : Loop :=
  { state := st, pending := pend, fn, tmps := #[.slice none 0 0, sv, .pointer (some ⟨Bs, 0, none⟩), undef, .slice none 0 0, undef, sv, undef, undef, undef, undef, undef, undef], params := #[7], assign := ac.1, body := ac.2, defers := D }

/-- BETWEEN TWO ROUNDS. -/
structure IdAt (ac : Code × Code) (w0 : World) (fn : FuncId) (sv : Value) (Bs l D : Nat) (g : Nat) (ss : List Int) (W : World) : Prop where
  box : ∃ v, W.heap[Bs]? = some (.cells #[v] 75 (0, 0)) ∧ W.ownsRow w0.heap.size 3 1 v ss.length (ss.map (Value.int .i64)) ∧ v.ownBlock ≠ some g
  L : W.heap[l]? = some (.loop (apRec ac fn sv Bs D .ready none))
  K : W.heap[D]? = some (.deferred (some []))
  below : Below w0.heap.size w0 W
/-- BEFORE THE FIRST. -/
structure IdB (ac : Code × Code) (w0 : World) (fn : FuncId) (sv : Value) (Bs l D : Nat) (W : World) : Prop where
  box : W.heap[Bs]? = some (.cells #[.slice none 0 0] 75 (0, 0))
  L : W.heap[l]? = some (.loop (apRec ac fn sv Bs D .ready none))
  K : W.heap[D]? = some (.deferred (some []))
  below : Below w0.heap.size w0 W
theorem IdB.later {ac : Code × Code} {w0 : World} {fn : FuncId} {sv : Value} {Bs l D : Nat} {W W' : World} (h : IdB ac w0 fn sv Bs l D W) (hb : Below W.heap.size W W') : IdB ac w0 fn sv Bs l D W' :=
  ⟨(hb.block _ (Array.getElem?_eq_some_iff.1 h.box).1).trans h.box, (hb.block _ (Array.getElem?_eq_some_iff.1 h.L).1).trans h.L, (hb.block _ (Array.getElem?_eq_some_iff.1 h.K).1).trans h.K, h.below.trans (hb.mono h.below.size)⟩
theorem IdB.at_ {ac : Code × Code} {w0 : World} {fn : FuncId} {sv : Value} {Bs l D : Nat} {W : World} (h : IdB ac w0 fn sv Bs l D W) (g : Nat) : IdAt ac w0 fn sv Bs l D g [] W :=
  ⟨⟨_, h.box, World.ownsRow_nil _ _ _ _, by simp [Value.ownBlock]⟩, h.L, h.K, h.below⟩

set_option maxRecDepth 100000 in
set_option maxHeartbeats 2000000 in
theorem idYield (ac : Code × Code) (hac : ac = apOf Try.f70.body) (w0 : World) (fn : FuncId) (sv : Value) (Bs l D : Nat) (hBl : Bs ≠ l) (hDl : D ≠ l) (hDB : D ≠ Bs) (h0B : w0.heap.size ≤ Bs) (h0l : w0.heap.size ≤ l)
    (N : Nat) (hN : N ≤ maxLen) (hNb : N * 8 ≤ 140737488355328) (g : Nat) (hgB : g ≠ Bs) (hgl : g ≠ l) (hgD : g ≠ D) (ss : List Int) (x : Int) (W : World) (hgW : g < W.heap.size) (h : IdAt ac w0 fn sv Bs l D g ss W) (hlen : ss.length < N) :
    YieldAt Fence.wide 1 Try.prog l #[.int .i64 x] W fun e W' => e = .returned (.bool true) ∧ IdAt ac w0 fn sv Bs l D g (ss ++ [x]) W' ∧ W'.heap[g]? = W.heap[g]? := by
  obtain ⟨i0, hi, hz0, hz1, hz2⟩ : ∃ i, Try.prog.info? 3 = some i ∧ i.zero = some (.int .i64 0) ∧ i.size = 1 ∧ i.bytes = 8 := ⟨Try.t3, by kernel_rfl, rfl, rfl, rfl⟩
  have hne : (75 : TypeId) ≠ 3 := by decide
  obtain ⟨v, hv, hrow, hvg⟩ := h.box
  refine ⟨fn, #[.slice none 0 0, sv, .pointer (some ⟨Bs, 0, none⟩), undef, .slice none 0 0, undef, sv, .int .i64 x, undef, undef, undef, undef, undef], ac.1, ac.2, by simpa [apRec] using run_yield (P := Try.prog) (args := #[.int .i64 x]) h.L rfl, roundIn_of_wpIn trivial ?_⟩
  have hl : l < W.heap.size := (Array.getElem?_eq_some_iff.1 h.L).1
  have hbr := run_beginRound (P := Try.prog) h.L rfl
  obtain ⟨W2, hW2⟩ : ∃ W2, W.putObj l (.loop { apRec ac fn sv Bs D .ready none with state := .busy }) = W2 := ⟨_, rfl⟩
  rw [hW2] at hbr
  have hg2 : W.grownBy W2 (some l) := by rw [← hW2]; exact grownBy_putObj_a _ _ _
  have hk2 : W2.heap[g]? = W.heap[g]? := hg2.block g hgW (fun e => hgl (by cases e; rfl))
  have hgW2 : g < W2.heap.size := by have := hg2.size; omega
  have hv2 : W2.heap[Bs]? = some (.cells #[v] 75 (0, 0)) := by rw [← hW2]; exact (World.putObj_heap_other hBl).trans hv
  have hK2 : W2.heap[D]? = some (.deferred (some [])) := by rw [← hW2]; exact (World.putObj_heap_other hDl).trans h.K
  have hL2 : W2.heap[l]? = some (.loop { apRec ac fn sv Bs D .ready none with state := .busy }) := by rw [← hW2]; exact World.putObj_heap_same hl
  have hrow2 : W2.ownsRow w0.heap.size 3 1 v ss.length (ss.map (Value.int .i64)) := hrow.kept hg2 (ownsRow_ne_a hrow h.L (fun cur e => by cases e))
  have hb2 : Below w0.heap.size w0 W2 := h.below.grown hg2 h.below.size (fun k e => by cases e; exact h0l)
  obtain ⟨hc2, hf2⟩ := cell_of_box_a hv2
  have hBlt : Bs < W2.heap.size := (Array.getElem?_eq_some_iff.1 hv2).1
  have hl2 : l < W2.heap.size := (Array.getElem?_eq_some_iff.1 hL2).1
  have hDlt : D < W2.heap.size := (Array.getElem?_eq_some_iff.1 hK2).1
  have ne_of : ∀ {j : Nat} {o : Obj}, W2.heap[j]? = some o → (∀ cur, o ≠ .cells cur 3 (0, 0)) → some j ≠ v.ownBlock := fun hj hno => by
    rcases ownsRow_ne_a hrow2 hj hno with e | e
    · rw [e]; simp
    · exact fun e' => e e'.symm
  clear hW2
  rw [show ac.1 = (apOf Try.f70.body).1 from by rw [hac], show ac.2 = (apOf Try.f70.body).2 from by rw [hac]]
  simp only [apOf, Try.f70, rfOf, Option.getD_some]
  clear hac
  gi_wp2_with (first
    | (gi_at_builtin; refine wpListIn_append_own_at _ rfl _ _ 75 rfl w0.heap.size 3 i0 (.int .i64 0) 1 8 Try.underlying75 hi hz0 hz1 hz2 rfl (by decide) _ _ _ rfl (hrow2.alloc _) ⟨W2.heap.size, 0, none⟩ 1 1 [.int .i64 x] rfl rfl (cell_one_new _ _ _) (by simp [Value.oneCell']) (by omega) (by omega) (by have := hb2.size; simp; omega) ?_; intro v' w3 hown' hg3 hnil3 hob3; have hv3 : w3.heap[Bs]? = some (.cells #[v] 75 (0, 0)) := (hg3.block Bs (by simp; omega) (ne_of hv2 (fun cur e => hne (Obj.cells.inj e).2.1))).trans ((Below.heap_alloc _ _ Bs hBlt).trans hv2); obtain ⟨hc3, hf3⟩ := cell_of_box_a hv3; obtain ⟨g', cap', cur', rfl, hbase', hgb', hr1, hr2, hr3, hr4⟩ : ∃ g' cap' cur', v' = .slice (some ⟨g', 0, none⟩) (ss.length + 1) cap' ∧ w0.heap.size ≤ g' ∧ w3.heap[g']? = some (.cells cur' 3 (0, 0)) ∧ ss.length + 1 ≤ cap' ∧ cap' ≤ maxLen ∧ cur'.size = cap' * 1 ∧ cur'.toList.take ((ss.length + 1) * 1) = ss.map (Value.int .i64) ++ [.int .i64 x] := (by rcases hown'.2 with ⟨_, h0⟩ | h'; exact absurd h0 (by omega); exact h'); go_frame)
    | gi_round_op_a)
  have hg3' : (W2.alloc (.cells #[.int .i64 x] 3)).grownBy w3 v.ownBlock := hg3
  have hL3 : w3.heap[l]? = some (.loop { apRec ac fn sv Bs D .ready none with state := .busy }) := (hg3'.block l (by simp; omega) (ne_of hL2 (fun cur e => by cases e))).trans ((Below.heap_alloc _ _ l hl2).trans hL2)
  have hK3 : w3.heap[D]? = some (.deferred (some [])) := (hg3'.block D (by simp; omega) (ne_of hK2 (fun cur e => by cases e))).trans ((Below.heap_alloc _ _ D hDlt).trans hK2)
  have hG3 : w3.heap[g]? = W.heap[g]? := (hg3'.block g (by simp; omega) (fun e => hvg e.symm)).trans ((Below.heap_alloc _ _ g hgW2).trans hk2)
  have hgg : g' ≠ g := by
    intro e
    rcases hob3 with h | h
    · exact hvg (h.symm.trans (show some g' = some g by rw [e]))
    · have : g' = (W2.alloc (.cells #[.int .i64 x] 3)).heap.size := by simpa [Value.ownBlock] using h
      simp at this; omega
  obtain ⟨w4, hw4⟩ : ∃ w4, w3.setCell ⟨Bs, 0, none⟩ (.slice (some ⟨g', 0, none⟩) (ss.length + 1) cap') = w4 := ⟨_, rfl⟩
  rw [hw4]
  have hg4 : w3.grownBy w4 (some Bs) := by rw [← hw4]; exact grownBy_setCell0_a _ _ _
  have hv4 : w4.heap[Bs]? = some (.cells #[.slice (some ⟨g', 0, none⟩) (ss.length + 1) cap'] 75 (0, 0)) := by rw [← hw4]; exact heap_setCell_box_a _ hv3
  have hL4 : w4.heap[l]? = some (.loop { apRec ac fn sv Bs D .ready none with state := .busy }) := (hg4.block l (Array.getElem?_eq_some_iff.1 hL3).1 (fun e => hBl (by cases e; rfl))).trans hL3
  have hK4 : w4.heap[D]? = some (.deferred (some [])) := (hg4.block D (Array.getElem?_eq_some_iff.1 hK3).1 (fun e => hDB (by cases e; rfl))).trans hK3
  have hG4 : w4.heap[g]? = W.heap[g]? := (hg4.block g (by have := hg3'.size; simp at this; omega) (fun e => hgB (by cases e; rfl))).trans hG3
  have hrow4 := hown'.kept hg4 (ownsRow_ne_a hown' hv3 (fun cur e => hne (Obj.cells.inj e).2.1))
  have hl4 : l < w4.heap.size := (Array.getElem?_eq_some_iff.1 hL4).1
  have hb3 : Below w0.heap.size w0 w3 := (hb2.alloc hb2.size _).grown hg3' (by have := hb2.size; simp; omega) (fun k e => (hrow2.lt k e).1)
  have hb4 : Below w0.heap.size w0 w4 := hb3.grown hg4 hb3.size (fun k e => by cases e; exact h0B)
  clear hw4
  refine ⟨_, _, run_endRound none hL4, rfl, ⟨⟨_, (World.putObj_heap_other hBl).trans hv4, ?_, ?_⟩, World.putObj_heap_same hl4, (World.putObj_heap_other hDl).trans hK4, hb4.grown (grownBy_putObj_a _ _ _) hb4.size (fun k e => by cases e; exact h0l)⟩, ((World.putObj_heap_other hgl).trans hG4).trans (Array.getElem?_eq_getElem hgW)⟩
  · have := hrow4.kept (grownBy_putObj_a w4 l (.loop { { apRec ac fn sv Bs D .ready none with state := .busy } with state := if (none : Option Code).isNone then .ready else .done, pending := none })) (ownsRow_ne_a hrow4 hL4 (fun cur e => by cases e))
    simpa using this
  · intro e
    exact hgg (by simpa [Value.ownBlock] using e)

set_option maxRecDepth 100000 in
set_option maxHeartbeats 2000000 in
/-- slices.AppendSeq of nothing and the numbers. -/
theorem idApp (A : Option Addr) (cap : Nat) (ls : List (List Elem)) (hreach : (ls.map List.length).sum * 8 ≤ 70368744177664) (hll : ls.length ≤ 1000000000000) (w : World) (n₀ : Nat) (hn₀ : n₀ ≤ w.heap.size) (Bs' : Nat)
    (hBs : w.heap[Bs']? = some (.cells #[.slice A ls.length cap] 50 (0, 0))) (hI : Chs n₀ w A ls) :
    CallsIn Fence.wide 2 Try.prog 70 #[.slice none 0 0, .func (.func 71) #[] #[.pointer (some ⟨Bs', 0, none⟩)]] w fun e w' => ∃ v, e = .returned v ∧ w'.ownsRow w.heap.size 3 1 v (sortI (nums ls ls.length)).length ((sortI (nums ls ls.length)).map (Value.int .i64)) ∧ Below w.heap.size w w' := by
  have hBl : Bs' < w.heap.size := (Array.getElem?_eq_some_iff.1 hBs).1
  refine callsIn_of_wp_marks Try.func70 rfl trivial ?_ rfl
  simp only [Try.ntmps70, List.size_toArray, List.length_cons, List.length_nil, Nat.reduceAdd, Nat.reduceSub, Array.replicate_succ, Array.replicate_zero, List.push_toArray, List.append_toArray, List.nil_append, List.cons_append]
  gi_wp2
  refine wpIn_rangeFunc ?_
  intro fn hfn
  obtain ⟨W0, hW0⟩ : ∃ W0, w.alloc (.cells #[.slice none 0 0] 75) = W0 := ⟨_, rfl⟩
  have hs0 : W0.heap.size = w.heap.size + 1 := by rw [← hW0]; simp
  have hv0 : W0.heap[w.heap.size]? = some (.cells #[.slice none 0 0] 75 (0, 0)) := by rw [← hW0]; exact World.alloc_heap_new w _
  have hb0 : Below w.heap.size w W0 := by rw [← hW0]; exact (Below.refl _ w).alloc (Nat.le_refl _) _
  rw [hW0]
  rw [show Fence.wide.round = none from rfl]
  obtain ⟨ac, hac⟩ : ∃ ac, ac = apOf Try.f70.body := ⟨_, rfl⟩
  obtain ⟨sv, hsv⟩ : ∃ sv, sv = Value.func (.func 71) #[] #[.pointer (some ⟨Bs', 0, none⟩)] := ⟨_, rfl⟩
  obtain ⟨W1, hW1⟩ : ∃ W1, (W0.alloc (.deferred (some []))).alloc (.loop (apRec ac fn sv w.heap.size W0.heap.size .ready none)) = W1 := ⟨_, rfl⟩
  have hold : ∀ k, k < W0.heap.size → W1.heap[k]? = W0.heap[k]? := fun k hk => by
    rw [← hW1]; exact (Below.heap_alloc _ _ k (by simp; omega)).trans (Below.heap_alloc _ _ k hk)
  have hb1 : Below w.heap.size w W1 := by rw [← hW1]; exact (hb0.alloc hb0.size _).alloc (by have := hb0.size; simp; omega) _
  have hs1 : W1.heap.size = W0.heap.size + 2 := by rw [← hW1]; simp
  have hM : IdB ac w fn sv w.heap.size (W0.heap.size + 1) W0.heap.size W1 :=
    ⟨(hold w.heap.size (by omega)).trans hv0,
     by rw [← hW1]; have := World.alloc_heap_new (W0.alloc (.deferred (some []))) (.loop (apRec ac fn sv w.heap.size W0.heap.size .ready none)); rwa [World.size_alloc] at this,
     by rw [← hW1]; exact (Below.heap_alloc _ _ _ (by simp)).trans (World.alloc_heap_new W0 _), hb1⟩
  have key := ids1_in (W0.heap.size + 1) Bs' A cap ls hreach hll W1 n₀ (by omega) ((hb1.block _ hBl).trans hBs) (hI.below (hb1.mono hn₀))
    (IdB ac w fn sv w.heap.size (W0.heap.size + 1) W0.heap.size) (fun g ss W => IdAt ac w fn sv w.heap.size (W0.heap.size + 1) W0.heap.size g ss W)
    (fun W' h hb => h.later hb) (fun g W' h _ _ => h.at_ g) hM
    (fun g pre x W hg hJ hl hgW => idYield ac hac w fn sv w.heap.size (W0.heap.size + 1) W0.heap.size (by omega) (by omega) (by omega) (Nat.le_refl _) (by omega) (ls.map List.length).sum (by simp only [maxLen]; omega) (by omega) g (by omega) (by omega) (by omega) pre x W hgW hJ hl)
  refine ⟨W0.heap.size + 1, [{ target := .collected W0.heap.size, args := #[] }], W1, { target := .fn (.func 71) #[.pointer (some ⟨Bs', 0, none⟩)], args := #[.func (.yield (W0.heap.size + 1)) #[] #[]] }, W1, 71,
    #[.func (.yield (W0.heap.size + 1)) #[] #[]] ++ #[.pointer (some ⟨Bs', 0, none⟩)], W1, ?_, ?_, ?_, ?_, fun _ => by omega, ?_⟩
  · rw [← hW1, hac, hsv]; exact run_enterLoop_outer _ _ _ _ _
  · simp [resolve, go_sem]
  · intro f' hf'; trivial
  · have eg := enters_of Try.func71 (by kernel_rfl) rfl
    simp [invoke, go_sem, eg]
  · refine (callsIn_wide.2 (callsIn_wide.1 key)).mono ?_
    rintro e W2 ⟨⟨v0, rfl⟩, hfin⟩
    obtain ⟨g, h2⟩ : ∃ g, IdAt ac w fn sv w.heap.size (W0.heap.size + 1) W0.heap.size g (sortI (nums ls ls.length)) W2 := by
      rcases hfin with ⟨g, h⟩ | ⟨e, h⟩
      · exact ⟨g, h⟩
      · exact ⟨0, by rw [e]; exact h.at_ 0⟩
    obtain ⟨v, hv, hrow, _⟩ := h2.box
    have hend := run_endLoop (P := Try.prog) h2.L (by simp [apRec])
    obtain ⟨W3, hW3⟩ : ∃ W3, W2.putObj (W0.heap.size + 1) (.loop { apRec ac fn sv w.heap.size W0.heap.size .ready none with state := .exhausted }) = W3 := ⟨_, rfl⟩
    rw [hW3] at hend
    have hg3 : W2.grownBy W3 (some (W0.heap.size + 1)) := by rw [← hW3]; exact grownBy_putObj_a _ _ _
    have hv3 : W3.heap[w.heap.size]? = some (.cells #[v] 75 (0, 0)) := by rw [← hW3]; exact (World.putObj_heap_other (by omega)).trans hv
    have hK3 : W3.heap[W0.heap.size]? = some (.deferred (some [])) := by rw [← hW3]; exact (World.putObj_heap_other (by omega)).trans h2.K
    have hrow3 := hrow.kept hg3 (ownsRow_ne_a hrow h2.L (fun cur e => by cases e))
    have hb3 : Below w.heap.size w W3 := h2.below.grown hg3 h2.below.size (fun k e => by cases e; omega)
    obtain ⟨hc3, hf3⟩ := cell_of_box_a hv3
    clear hW3 hac hsv
    refine ⟨none, W3, hend, ?_⟩
    gi_wp2
    rw [← hs0]
    refine ⟨by simp, .inl ⟨_, _, rfl, run_takeDeferred hK3, ?_⟩⟩
    exact ⟨_, results_tmp rfl _ _ _, v, rfl, hrow3.kept (grownBy_putObj_a _ _ _) (ownsRow_ne_a hrow3 hK3 (fun cur e => by cases e)), hb3.grown (grownBy_putObj_a _ _ _) hb3.size (fun k e => by cases e; omega)⟩
end Go.Iw
