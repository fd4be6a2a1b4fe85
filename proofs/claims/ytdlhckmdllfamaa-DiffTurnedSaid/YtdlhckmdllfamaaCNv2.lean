/- edit.Invert: the walk. -/
import Derived.Test.YtdlhckmdllfamaaCNv1
import Derived.Test.YtdlhckmdllfamaaIvD
import Derived.Sort.CutIn
import Derived.RangeFuncNested
import Derived.Deep.WholeRow
namespace Go.Iw
open Go.Iv Go.Proofs Go.RowKit Go.Shelf
set_option linter.unusedVariables false
set_option linter.unusedSimpArgs false

attribute [local go_sem] Oper.semAt_some

/-- A STORE, one step of a walk. -/
theorem in_store {F : Fence} {n : Nat} {P : Program} {w : World} {ops : Array Oper} {rest : List Oper} {o : Oper} {a : Go.Act} {Q : Exit → Go.Act → World → Prop}
    (hg : o.guard = none) {T : TypeId} {x y : Operand} (hop : o.op = .store T x y) {ad : Addr} (hx : a.eval x = .pointer (some ad)) {v : Value} (hy : a.eval y = v) {w' : World} (hl : (storeVar T ad v).run P w = .ok () w')
    (hK : wpListIn F n P ops Q rest (a.put o.dst undef) w') : wpListIn F n P ops Q (o :: rest) a w := by
  refine wpListIn_plain hg fun K hK' => ?_
  unfold Oper.wpIn
  refine ⟨?_, ?_⟩
  · simp [Oper.about, hop, Sem.run_pure]
  · rw [Oper.semAt_plain F _ _ (by rw [hop]; intro c hc'; cases hc')]
    simp [execOp, hop, hx, hy, Instr.storeAt, Instr.sureAddr, hl, Result.andThen]
    exact hK' _ _ hK

theorem build_edit (w : World) (x : Edit) : (Instr.buildSlice 32 1 #[(0, .agg (cE x).toArray)]).run Try.prog w = .ok (.slice (some ⟨w.heap.size, 0, none⟩) 1 1) (w.alloc (.cells (cE x).toArray 49)) := by
  have h2 : (sizeOf 49).run Try.prog w = .ok 16 w := sizeOf_run (base_ty 49 tEdit (by kernel_rfl))
  have hnn : ¬ (1 * 16 > 2 ^ 24) := by omega
  have h0 : ¬ (1 * 16 = 0) := by omega
  simp only [Instr.buildSlice, Sem.run_bind, run_underlying Try.underlying32, Result.andThen_ok, h2, if_neg hnn, Sem.run_pure, if_neg h0, Try.zeroValue49]
  have e : ∀ c : Array Value, c.size = 16 → Instr.fill (fun i => some (i * 16, 16)) c [(0, Value.agg (cE x).toArray)] = some (cE x).toArray := by
    intro c hc
    obtain ⟨cells', hc', he⟩ := fill_one (v := .agg (cE x).toArray) (rest := []) (cells := c) (place := fun i => some (i * 16, 16)) (i := 0) (pre := []) (d := c.toList) (post := []) rfl (by simp) rfl (by simpa using hc) rfl
    rw [he]
    simp only [Instr.fill]
    exact congrArg some (Array.toList_inj.1 (by rw [hc']; simp [Value.cells]))
  rw [e _ (by simp)]
  simp [newRow]
theorem in_build {F : Fence} {n : Nat} {w : World} {ops : Array Oper} {rest : List Oper} {o : Oper} {a : Go.Act} {Q : Exit → Go.Act → World → Prop}
    (hg : o.guard = none) {y : Operand} (hop : o.op = .buildSlice 32 1 #[(0, y)]) {x : Edit} (hy : a.eval y = .agg (cE x).toArray)
    (hK : wpListIn F n Try.prog ops Q rest (a.put o.dst (.slice (some ⟨w.heap.size, 0, none⟩) 1 1)) (w.alloc (.cells (cE x).toArray 49))) : wpListIn F n Try.prog ops Q (o :: rest) a w := by
  refine wpListIn_plain hg fun K hK' => ?_
  unfold Oper.wpIn
  refine ⟨?_, ?_⟩
  · simp [Oper.about, hop, Sem.run_pure]
  · rw [Oper.semAt_plain F _ _ (by rw [hop]; intro c hc'; cases hc')]
    simp [execOp, hop, hy, build_edit, Result.andThen]
    exact hK' _ _ hK

/-- THE VARIABLE x OF A ROUND. -/
def XBox (W : World) (X : Nat) (x : Edit) : Prop := W.heap[X]? = some (.cells (cE x).toArray 49 (0, 0))

theorem one_cE (x : Edit) : ∀ u ∈ cE x, u.oneCell' = true := by
  intro u hu
  simp [cE] at hu
  rcases hu with rfl | rfl | rfl | rfl | rfl | rfl | rfl | rfl | rfl | rfl | rfl | rfl | rfl | rfl | rfl | rfl <;> rfl

theorem st_all {W : World} {X : Nat} {z : Array Value} (hb : W.heap[X]? = some (.cells z 49 (0, 0))) (hz : z.size = 16) (x : Edit) : (storeVar 49 ⟨X, 0, none⟩ (.agg (cE x).toArray)).run Try.prog W = .ok () (W.setRow X (cE x).toArray) := by
  have := storeVar_run (P := Try.prog) (base_ty 49 tEdit (by kernel_rfl)) W X 0 z 49 hb (.agg (cE x).toArray) [] z.toList [] (by simp) rfl (by rw [show tEdit.size = 16 from rfl]; simpa using hz) rfl (by simpa [Value.cells] using one_cE x)
  rw [this]; simp [Value.cells]
theorem st_op {W : World} {X : Nat} {x : Edit} (hb : XBox W X x) (m : Int) : (storeVar 5 ⟨X, 0, none⟩ (.int .u8 m)).run Try.prog W = .ok () (W.setRow X (cE (m, x.2)).toArray) := by
  have := storeVar_run (P := Try.prog) (base_ty 5 (.int .u8) (by kernel_rfl)) W X 0 _ 49 hb (.int .u8 m) [] [.int .u8 x.1] (cE x).tail (by simp [cE]) rfl rfl rfl (by intro u hu; simp [Value.cells] at hu; subst hu; rfl)
  rw [this]; simp [Value.cells, cE]
def vV (v : Val) : Value := .agg #[.int .i64 v.1, .string v.2.1]
theorem st_old {W : World} {X : Nat} {x : Edit} (hb : XBox W X x) (v : Val) : (storeVar 45 ⟨X, 12, none⟩ (vV v)).run Try.prog W = .ok () (W.setRow X (cE (x.1, x.2.1, x.2.2.1, v, x.2.2.2.2.1, ())).toArray) := by
  have := storeVar_run (P := Try.prog) (base_ty 45 tVal (by kernel_rfl)) W X 12 _ 49 hb (vV v) ((cE x).take 12) (((cE x).drop 12).take 2) ((cE x).drop 14) (by simp [cE]) rfl rfl rfl (by intro u hu; simp [Value.cells, vV] at hu; rcases hu with rfl | rfl <;> rfl)
  rw [this]; simp [Value.cells, cE, vV]
theorem st_new {W : World} {X : Nat} {x : Edit} (hb : XBox W X x) (v : Val) : (storeVar 45 ⟨X, 14, none⟩ (vV v)).run Try.prog W = .ok () (W.setRow X (cE (x.1, x.2.1, x.2.2.1, x.2.2.2.1, v, ())).toArray) := by
  have := storeVar_run (P := Try.prog) (base_ty 45 tVal (by kernel_rfl)) W X 14 _ 49 hb (vV v) ((cE x).take 14) (((cE x).drop 14).take 2) [] (by simp [cE]) rfl rfl rfl (by intro u hu; simp [Value.cells, vV] at hu; rcases hu with rfl | rfl <;> rfl)
  rw [this]; simp [Value.cells, cE, vV]
theorem ld_val {W : World} {ad : Addr} (v : Val) (h0 : W.cell? (ad.add 0) = some (.int .i64 v.1)) (h1 : W.cell? (ad.add 1) = some (.string v.2.1)) : (loadVar 45 ad).run Try.prog W = .ok (vV v) W := by
  obtain ⟨u, e, cs, h2, h3⟩ := run_loadVar_rep (w := W) (ok := fun _ => False) (x := v) (base_ty 45 tVal (by kernel_rfl)) (d := [.int .i64 v.1, .string v.2.1]) (by simp [Rep]) (fun j u hj => by
    match j, hj with
    | 0, hj => cases hj; exact h0
    | 1, hj => cases hj; exact h1)
  have : cs = [.int .i64 v.1, .string v.2.1] := by simp [Rep] at h2; simp [h2]
  rw [e, h3, this]; rfl
theorem XBox.cell {W : World} {X : Nat} {x : Edit} (h : XBox W X x) (j : Nat) (u : Value) (hu : (cE x)[j]? = some u) : W.cell? ⟨X, j, none⟩ = some u := by
  simp [World.cell?, show W.heap[X]? = _ from h, hu]
theorem ld_old {W : World} {X : Nat} {x : Edit} (h : XBox W X x) : (loadVar 45 ⟨X, 12, none⟩).run Try.prog W = .ok (vV x.2.2.2.1) W := ld_val _ (h.cell 12 _ rfl) (h.cell 13 _ rfl)
theorem ld_new {W : World} {X : Nat} {x : Edit} (h : XBox W X x) : (loadVar 45 ⟨X, 14, none⟩).run Try.prog W = .ok (vV x.2.2.2.2.1) W := ld_val _ (h.cell 14 _ rfl) (h.cell 15 _ rfl)
theorem ld_all {W : World} {X : Nat} {x : Edit} (h : XBox W X x) : (loadVar 49 ⟨X, 0, none⟩).run Try.prog W = .ok (.agg (cE x).toArray) W := load_edit fun j u hu => by
  rw [Addr.add_mid]; simpa using h.cell j u hu
theorem XBox.set {W : World} {X : Nat} {x : Edit} (h : XBox W X x) (y : Edit) : XBox (W.setRow X (cE y).toArray) X y := setRow_heap W X _ _ _ _ h

/-- The values that have come, inverted. -/
def invs (pre : List (Nat × Edit)) : List Value := (pre.map fun p => cE (invE p.2)).flatten
theorem invs_snoc (pre : List (Nat × Edit)) (x : Nat × Edit) : invs (pre ++ [x]) = invs pre ++ cE (invE x.2) := by simp [invs]

theorem info49 : (Try.prog.info? 49).map (fun i => (i.zero.map (·.cells.size), i.size, i.bytes)) = some (some 16, 16, 176) := by kernel_rfl

/-- WHAT HOLDS BETWEEN ROUNDS. -/
def InvI (n₀ : Nat) (w1 : World) (sv : Value) (pre : List (Nat × Edit)) (W : World) : Prop :=
  ((∃ v, Boxed W n₀ 32 v ∧ W.ownsRow n₀ 49 16 v pre.length (invs pre) ∧ True) ∧ Boxed W (n₀ + 1) 32 sv) ∧ Below n₀ w1 W
/-- WHAT HOLDS WHEN A ROUND BEGINS. -/
def InvA (n₀ : Nat) (act : Value → Value → Value → Go.Act) (x : Nat × Edit) (a' : Go.Act) (W : World) : Prop :=
  ∃ X, a' = act (.int .i64 (x.1 : Int)) (.agg (cE x.2).toArray) (.pointer (some ⟨X, 0, none⟩)) ∧ XBox W X x.2 ∧ n₀ + 2 ≤ X ∧ ∃ v, Boxed W n₀ 32 v ∧ v.ownBlock ≠ some X
theorem own_box {β : Type} (B : Nat) (t : TypeId) (v : Value) : Own (fun (_ : β) W => Boxed W B t v) := by
  intro s V W row hv hg hrow
  refine hv.kept hg fun e => ?_
  obtain ⟨o, ho, hc⟩ := hrow B e.symm
  rw [show V.heap[B]? = _ from hv] at ho; cases ho; cases hc
theorem own_xbox {β : Type} (X : Nat) (x : Edit) : Own (fun (_ : β) W => XBox W X x) := by
  intro s V W row hv hg hrow
  refine (hg.block X (Array.getElem?_eq_some_iff.1 (show V.heap[X]? = _ from hv)).1 fun e => ?_).trans hv
  obtain ⟨o, ho, hc⟩ := hrow X e.symm
  rw [show V.heap[X]? = _ from hv] at ho; cases ho; cases hc
theorem own_InvI (n₀ : Nat) (w1 : World) (sv : Value) (B : Nat) (hn : n₀ ≤ w1.heap.size) (hB : n₀ ≤ B) : OwnFrom B (InvI n₀ w1 sv) :=
  OwnFrom.and (OwnFrom.and (Own.from (holdsRow_own n₀ n₀ 32 49 16 (fun pre : List (Nat × Edit) => pre.length) invs (fun _ _ => True)) _) (Own.from (own_box _ _ _) _)) (ownFrom_below hn hB)
theorem own_InvA (n₀ : Nat) (act : Value → Value → Value → Go.Act) (x : Nat × Edit) (a' : Go.Act) (B : Nat) : OwnFrom B (fun (_ : Unit) W => InvA n₀ act x a' W) := by
  refine Own.from ?_ B
  rintro s V W row ⟨X, e, hx, hn, v, hv, hne⟩ hg hrow
  exact ⟨X, e, own_xbox (β := Unit) X x.2 () V W row hx hg hrow, hn, v, own_box (β := Unit) n₀ 32 v () V W row hv hg hrow, hne⟩

/-- THE VARIABLE IS ANOTHER ONE, nothing else. -/
structure Mid (W W2 : World) (X : Nat) (y : Edit) : Prop where
  xb : XBox W2 X y
  os : W2.os = W.os
  tape : W2.tape = W.tape
  output : W2.output = W.output
  size : W2.heap.size = W.heap.size
  o : ∀ k, k ≠ X → W2.heap[k]? = W.heap[k]?
theorem mid1 {F : Fence} {m : Nat} {c : Code} {Q : Exit → Go.Act → World → Prop} {a : Go.Act} {W : World} {X : Nat} {x y : Edit} (hX : XBox W X x) (h : ∀ W2, Mid W W2 X y → c.wpIn F m Try.prog Q a W2) : c.wpIn F m Try.prog Q a (W.setRow X (cE y).toArray) :=
  h _ ⟨hX.set y, rfl, rfl, rfl, by simp, fun k hk => setRow_other W X k _ hk⟩
theorem mid2 {F : Fence} {m : Nat} {c : Code} {Q : Exit → Go.Act → World → Prop} {a : Go.Act} {W : World} {X : Nat} {x z y : Edit} (hX : XBox W X x) (h : ∀ W2, Mid W W2 X y → c.wpIn F m Try.prog Q a W2) : c.wpIn F m Try.prog Q a ((W.setRow X (cE z).toArray).setRow X (cE y).toArray) :=
  h _ ⟨(hX.set z).set y, rfl, rfl, rfl, by simp, fun k hk => (setRow_other _ X k _ hk).trans (setRow_other W X k _ hk)⟩
theorem Mid.grown {W W2 : World} {X : Nat} {y : Edit} (h : Mid W W2 X y) : W.grownBy W2 (some X) :=
  ⟨h.os, h.tape, h.output, by rw [h.size]; exact Nat.le_refl _, fun k _ hk => h.o k fun e => hk (by rw [e])⟩

theorem Mid.others {W W2 : World} {X : Nat} {x y : Edit} (h : Mid W W2 X y) (hX : XBox W X x) : KeepsOthers W W2 :=
  ⟨by rw [h.size]; exact Nat.le_refl _, fun k o hk ho => (h.o k fun e => by subst e; rw [show W.heap[k]? = _ from hX] at hk; cases hk; cases ho).trans hk⟩
theorem Mid.below {W W2 : World} {X : Nat} {y : Edit} (h : Mid W W2 X y) (n₀ : Nat) (hn : n₀ ≤ X) : Below n₀ W W2 :=
  ⟨h.os, h.tape, h.output, by rw [h.size]; exact Nat.le_refl _, fun k hk => h.o k (by omega)⟩
theorem cells_new (W : World) (y : Edit) (j : Nat) (u : Value) (hu : (cE y)[j]? = some u) : (W.alloc (.cells (cE y).toArray 49)).cell? (Addr.add ⟨W.heap.size, 0, none⟩ j) = some u := by
  rw [Addr.add_mid]
  have h : (W.alloc (.cells (cE y).toArray 49)).heap[W.heap.size]? = some (.cells (cE y).toArray 49 (0, 0)) := World.alloc_heap_new _ _
  simp only [World.cell?, Nat.zero_add, h]
  simpa using hu

set_option maxRecDepth 100000 in
set_option maxHeartbeats 4000000 in
theorem inv_in (F : Fence) (n : Nat) (hf : F.fn 30) (hf1 : F.fn 55) (hf2 : F.fn 63) (hro : F.round = none) (hn : 3 ≤ n) (A : Option Addr) (cap : Nat) (zs : List Edit) (hreach : zs.length * 176 ≤ 70368744177664) (w : World) (hI : Eds w.heap.size w A zs) :
    CallsIn F n Try.prog 30 #[.slice A zs.length cap] w fun e W' => ∃ v, e = .returned v ∧ W'.ownsRow w.heap.size 49 16 v zs.length (invs (bkUp zs zs.length)) ∧ Below w.heap.size w W' := by
  have h1 : 1 ≤ n := by omega
  obtain ⟨i0, hi, z0, hz0, hz3, hz1, hz2⟩ : ∃ i, Try.prog.info? 49 = some i ∧ ∃ z, i.zero = some z ∧ z.cells.size = 16 ∧ i.size = 16 ∧ i.bytes = 176 := ⟨Try.t49, by kernel_rfl, _, rfl, rfl, rfl, rfl⟩
  refine callsIn_of_wp_marks Try.func30 rfl hf ?_ hro
  simp only [Try.ntmps30, List.size_toArray, List.length_cons, List.length_nil, Nat.reduceAdd, Nat.reduceSub, Array.replicate_succ, Array.replicate_zero, List.push_toArray, List.append_toArray, List.nil_append, List.cons_append]
  gi_wp2_with (gi_at_call 55; refine (bk_in F (n - 1) hf1 hro _ _ _ _).mono ?_; rintro e w' ⟨rfl, rfl⟩)
  have bO := Boxed.new w 32 (.slice none 0 0)
  have bB := Boxed.new (w.alloc (.cells #[.slice none 0 0] 32)) 32 (.slice A zs.length cap)
  rw [World.size_alloc] at bB
  have hB0 : Below w.heap.size w ((w.alloc (.cells #[.slice none 0 0] 32)).alloc (.cells #[.slice A zs.length cap] 32)) := ((Below.refl _ w).alloc (Nat.le_refl _) _).alloc (by simp) _
  refine wpIn_rangeFunc_ownH hro h1 (gf := 63) (lb := #[.pointer (some ⟨w.heap.size + 1, 0, none⟩)]) rfl hf2 (enters_of Try.func63 (by kernel_rfl) rfl)
    (bk_stops F (n - 1) hf2 hro (by omega) (w.heap.size + 1) w.heap.size A cap zs (by omega) _ (by simp) (by simp; omega) bB (hI.below hB0))
    (fun h k => ⟨h.1.trans k.1, k.2.trans h.2⟩) (fun W l o o' hl ho hc hw => ⟨belowK_b (w := w) (Nat.le_refl _) W l o o' (by simp at hl; omega) ho hc hw, World.putObj_heap_other (by simp at hl; omega)⟩) (Below.refl _ _) (fun _ => rfl)
    (InvI w.heap.size ((w.alloc (.cells #[.slice none 0 0] 32)).alloc (.cells #[.slice A zs.length cap] 32)) (.slice A zs.length cap)) (fun _ _ _ => False)
    (own_InvI _ _ _ _ (by simp; omega) (by simp; omega)) (fun _ _ _ _ _ hs _ _ => hs)
    ⟨⟨⟨_, bO.alloc _, World.ownsRow_nil _ _ _ _, trivial⟩, bB⟩, Below.refl _ _⟩
    (InvA w.heap.size fun i v p => { tmps := #[.slice A zs.length cap, undef, .slice none 0 0, .pointer (some ⟨w.heap.size, 0, none⟩), undef, p, .slice A zs.length cap, .func (.func 63) #[] #[.pointer (some ⟨w.heap.size + 1, 0, none⟩)], i, v, undef, undef, undef, undef, undef, undef, undef, undef, undef, undef, undef, undef, undef, undef, undef, undef, undef, undef, undef], defers := [] })
    (fun x a' => own_InvA _ _ x a' _) ?assign ?body ?done ?stop
  case assign =>
    intro l pre x W K hIn hK
    obtain ⟨⟨⟨v, hv, hrow, _⟩, hbs⟩, hB⟩ := hIn
    have hsz := hbs.lt
    have hin : InvI w.heap.size ((w.alloc (.cells #[.slice none 0 0] 32)).alloc (.cells #[.slice A zs.length cap] 32)) (.slice A zs.length cap) pre (W.alloc (.cells (cE x.2).toArray 49)) := ⟨⟨⟨v, hv.alloc _, hrow.alloc _, trivial⟩, hbs.alloc _⟩, hB.alloc (by omega) _⟩
    gi_wp2_with (refine in_store rfl rfl rfl rfl (st_all (World.alloc_heap_new _ _) rfl x.2) ?_)
    rw [World.setRow_alloc_new]
    refine hK _ _ ((KeepsOthers.alloc W _).from _) ⟨(Below.refl _ W).alloc (by omega) _, Below.heap_alloc W _ _ hsz⟩ hin ⟨W.heap.size, rfl, World.alloc_heap_new _ _, by omega, v, hv.alloc _, fun e => ?_⟩
    have hob : ∀ b, v.ownBlock = some b → b < W.heap.size := by
      intro b hb
      rcases hrow.2 with ⟨rfl, _⟩ | ⟨g, cap', cur, rfl, _, hgb, _⟩
      · simp [Value.ownBlock] at hb
      · obtain rfl : g = b := by simpa [Value.ownBlock] using hb
        exact (Array.getElem?_eq_some_iff.1 hgb).1
    have := hob _ e
    omega
  case body =>
    rintro l pre x a' W hl _ ⟨⟨⟨v, hv, hrow, _⟩, hbs⟩, hB⟩ ⟨X, rfl, hX, hXn, v', hv', hne⟩ hlt
    obtain rfl : v = v' := by have := (show W.heap[w.heap.size]? = _ from hv).symm.trans hv'; simpa using this
    clear hv'
    have hc0 := hX.cell 0 _ rfl
    have hw1 : ((w.alloc (.cells #[.slice none 0 0] 32)).alloc (.cells #[.slice A zs.length cap] 32)).heap.size = w.heap.size + 2 := by simp
    clear hI bO bB hB0 hf hf1 hf2
    generalize ((w.alloc (.cells #[.slice none 0 0] 32)).alloc (.cells #[.slice A zs.length cap] 32)) = w1 at *
    generalize w.heap.size = n₀ at *
    have hbs0 := hbs
    gi_upto_region 10 with (with_reducible show wpListIn _ _ _ _ _ _ _ _; first
      | refine in_load rfl rfl rfl (ld_new hX) ?_ | refine in_load rfl rfl rfl (ld_old hX) ?_
      | refine in_store rfl rfl rfl rfl (st_old hX _) ?_ | refine in_store rfl rfl rfl rfl (st_new (hX.set _) _) ?_ | refine in_store rfl rfl rfl rfl (st_op hX _) ?_)
    · have h1 : x.2.1 = 1 := by rename_i h; simpa using h
      have e : (2, x.2.2) = invE x.2 := by simp [invE, h1]
      rw [e]
      refine mid1 hX ?_
      intro W2 hm
      have hv2 : Boxed W2 n₀ 32 v := (hm.o _ (by omega)).trans hv
      have hbs2 : Boxed W2 (n₀ + 1) 32 (.slice A zs.length cap) := (hm.o _ (by omega)).trans hbs
      have hrow2 := hrow.kept hm.grown (.inr hne)
      have hX2 := hm.xb
      have hc2 := hv2.cell
      have hn2 : n₀ ≤ W2.heap.size := by have := hv2.lt; omega
      have hko := hm.others hX
      have hbe := hm.below n₀ (by omega)
      clear hm hX hc0 hv hbs hrow hne
      gi_wp2_with (with_reducible show wpListIn _ _ _ _ _ _ _ _; first | refine in_load rfl rfl rfl (ld_all hX2) ?_ | refine in_build rfl rfl rfl ?_ | (gi_at_builtin; refine wpListIn_append_own _ rfl _ _ 32 rfl n₀ 49 i0 z0 16 176 Try.underlying32 hi hz0 hz1 hz2 hz3 (by decide) _ _ _ rfl (hrow2.alloc _) ⟨W2.heap.size, 0, none⟩ 1 1 (cE (invE x.2)) rfl rfl (cells_new W2 _) (one_cE _) (by simp only [maxLen]; omega) (by omega) (by simp; omega) ?_; intro v' w3 hown' hgrow _; obtain ⟨g', cap', rfl⟩ := ownsRow_succ hown'; obtain ⟨hv1, hv3, hr3, hk3, hb3⟩ := hv2.appended (by decide) hrow2 hn2 (Nat.le_refl _) hown' hgrow; have hbs3 := ((hbs2.alloc _).kept hgrow (hbs2.not_row (by decide) hrow2)).other (show n₀ + 1 ≠ n₀ by omega) (.slice (some ⟨g', 0, none⟩) (pre.length + 1) cap'); have hc1 := hv1.cell; have hf1 := hv1.frozen))
      exact ⟨(hko.trans hk3).from _, ⟨hbe.trans hb3, hbs3.trans (show Boxed W (n₀ + 1) 32 (.slice A zs.length cap) from hbs0).symm⟩, ⟨⟨⟨_, hv3, by rw [invs_snoc]; simpa using hr3, trivial⟩, hbs3⟩, hB.trans (hbe.trans hb3)⟩⟩
    · have h2 : x.2.1 ≠ 1 ∧ x.2.1 = 2 := by rename_i h h'; simpa using And.intro h h'
      have e : (1, x.2.2) = invE x.2 := by simp [invE, h2.1, h2.2]
      rw [e]
      refine mid1 hX ?_
      intro W2 hm
      have hv2 : Boxed W2 n₀ 32 v := (hm.o _ (by omega)).trans hv
      have hbs2 : Boxed W2 (n₀ + 1) 32 (.slice A zs.length cap) := (hm.o _ (by omega)).trans hbs
      have hrow2 := hrow.kept hm.grown (.inr hne)
      have hX2 := hm.xb
      have hc2 := hv2.cell
      have hn2 : n₀ ≤ W2.heap.size := by have := hv2.lt; omega
      have hko := hm.others hX
      have hbe := hm.below n₀ (by omega)
      clear hm hX hc0 hv hbs hrow hne
      gi_wp2_with (with_reducible show wpListIn _ _ _ _ _ _ _ _; first | refine in_load rfl rfl rfl (ld_all hX2) ?_ | refine in_build rfl rfl rfl ?_ | (gi_at_builtin; refine wpListIn_append_own _ rfl _ _ 32 rfl n₀ 49 i0 z0 16 176 Try.underlying32 hi hz0 hz1 hz2 hz3 (by decide) _ _ _ rfl (hrow2.alloc _) ⟨W2.heap.size, 0, none⟩ 1 1 (cE (invE x.2)) rfl rfl (cells_new W2 _) (one_cE _) (by simp only [maxLen]; omega) (by omega) (by simp; omega) ?_; intro v' w3 hown' hgrow _; obtain ⟨g', cap', rfl⟩ := ownsRow_succ hown'; obtain ⟨hv1, hv3, hr3, hk3, hb3⟩ := hv2.appended (by decide) hrow2 hn2 (Nat.le_refl _) hown' hgrow; have hbs3 := ((hbs2.alloc _).kept hgrow (hbs2.not_row (by decide) hrow2)).other (show n₀ + 1 ≠ n₀ by omega) (.slice (some ⟨g', 0, none⟩) (pre.length + 1) cap'); have hc1 := hv1.cell; have hf1 := hv1.frozen))
      exact ⟨(hko.trans hk3).from _, ⟨hbe.trans hb3, hbs3.trans (show Boxed W (n₀ + 1) 32 (.slice A zs.length cap) from hbs0).symm⟩, ⟨⟨⟨_, hv3, by rw [invs_snoc]; simpa using hr3, trivial⟩, hbs3⟩, hB.trans (hbe.trans hb3)⟩⟩
    · have h2 : x.2.1 ≠ 1 ∧ x.2.1 ≠ 2 := by rename_i h h'; simpa using And.intro h h'
      have e : (x.2.1, x.2.2.1, x.2.2.2.1, x.2.2.2.2.2.1, x.2.2.2.2.1, ()) = invE x.2 := by simp [invE, h2.1, h2.2]
      rw [e]
      refine mid2 hX ?_
      intro W2 hm
      have hv2 : Boxed W2 n₀ 32 v := (hm.o _ (by omega)).trans hv
      have hbs2 : Boxed W2 (n₀ + 1) 32 (.slice A zs.length cap) := (hm.o _ (by omega)).trans hbs
      have hrow2 := hrow.kept hm.grown (.inr hne)
      have hX2 := hm.xb
      have hc2 := hv2.cell
      have hn2 : n₀ ≤ W2.heap.size := by have := hv2.lt; omega
      have hko := hm.others hX
      have hbe := hm.below n₀ (by omega)
      clear hm hX hc0 hv hbs hrow hne
      gi_wp2_with (with_reducible show wpListIn _ _ _ _ _ _ _ _; first | refine in_load rfl rfl rfl (ld_all hX2) ?_ | refine in_build rfl rfl rfl ?_ | (gi_at_builtin; refine wpListIn_append_own _ rfl _ _ 32 rfl n₀ 49 i0 z0 16 176 Try.underlying32 hi hz0 hz1 hz2 hz3 (by decide) _ _ _ rfl (hrow2.alloc _) ⟨W2.heap.size, 0, none⟩ 1 1 (cE (invE x.2)) rfl rfl (cells_new W2 _) (one_cE _) (by simp only [maxLen]; omega) (by omega) (by simp; omega) ?_; intro v' w3 hown' hgrow _; obtain ⟨g', cap', rfl⟩ := ownsRow_succ hown'; obtain ⟨hv1, hv3, hr3, hk3, hb3⟩ := hv2.appended (by decide) hrow2 hn2 (Nat.le_refl _) hown' hgrow; have hbs3 := ((hbs2.alloc _).kept hgrow (hbs2.not_row (by decide) hrow2)).other (show n₀ + 1 ≠ n₀ by omega) (.slice (some ⟨g', 0, none⟩) (pre.length + 1) cap'); have hc1 := hv1.cell; have hf1 := hv1.frozen))
      exact ⟨(hko.trans hk3).from _, ⟨hbe.trans hb3, hbs3.trans (show Boxed W (n₀ + 1) 32 (.slice A zs.length cap) from hbs0).symm⟩, ⟨⟨⟨_, hv3, by rw [invs_snoc]; simpa using hr3, trivial⟩, hbs3⟩, hB.trans (hbe.trans hb3)⟩⟩
  case done =>
    rintro D ys W hD rfl ⟨⟨⟨v, hv, hrow, _⟩, hbs⟩, hB⟩ hK
    have hc := hv.cell
    gi_wp2
    refine ⟨by simp, .inl ⟨_, _, rfl, run_takeDeferred hK, ?_⟩⟩
    rw [bkUp_length] at hrow
    exact ⟨_, results_tmp rfl _ _ _, v, rfl, ownsRow_putObj hrow _ hK rfl, (hB0.trans hB).trans (belowK_b (w := w) (Nat.le_refl _) W D _ _ (by simp at hD; omega) hK rfl rfl)⟩
  case stop =>
    rintro D c pre W _ _ h _
    exact h.elim
end Go.Iw
