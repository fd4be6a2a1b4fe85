/- edit.Invert, the first part: slices.Backward over a row of edits, as an iterator. -/
import Derived.RangeFuncBox
import Derived.RangeFuncLeaves
import Derived.Shelf.Abstract
import Derived.WalkKit
import Derived.OwnWalkIn
import Derived.TacticsInMore
import Derived.LoopNIn
import Derived.LoopIn
import Derived.Maps.AppendAt
import Derived.Test.YtdlhckmdllfamaaCBs
namespace Go.Iw
open Go.Iv Go.Proofs Go.RowKit Go.Shelf
set_option linter.unusedVariables false
set_option linter.unusedSimpArgs false

attribute [local go_sem] Oper.semAt_some

/-- The cells of an edit. -/
def cE (x : Edit) : List Value := [.int .u8 x.1, .int .i64 x.2.1.1, .int .u8 x.2.1.2.1, .int .i64 x.2.1.2.2.1, .int .i64 x.2.1.2.2.2.1, .string x.2.1.2.2.2.2.1, .int .i64 x.2.1.2.2.2.2.2.1, .int .i64 x.2.1.2.2.2.2.2.2.1,
  .string x.2.1.2.2.2.2.2.2.2.1, .string x.2.1.2.2.2.2.2.2.2.2.1, .string x.2.1.2.2.2.2.2.2.2.2.2.1, .int .i64 x.2.2.1, .int .i64 x.2.2.2.1.1, .string x.2.2.2.1.2.1, .int .i64 x.2.2.2.2.1.1, .string x.2.2.2.2.1.2.1]
theorem rep_cE (w : World) (ok : Nat → Prop) (x : Edit) : Rep w ok tEdit x (cE x) := by
  simp [Rep, cE]
theorem rep_eq {w : World} {ok : Nat → Prop} {x : Edit} {cs : List Value} (h : Rep w ok tEdit x cs) : cs = cE x := by
  simp [Rep] at h
  simp [h, cE]

/-- AN ADDRESS OF AN ELEMENT, one step of a walk. -/
theorem in_idx {F : Fence} {n : Nat} {P : Program} {w : World} {ops : Array Oper} {rest : List Oper} {o : Oper} {a : Go.Act} {Q : Exit → Go.Act → World → Prop}
    (hg : o.guard = none) {T : TypeId} {x i : Operand} (hop : o.op = .indexAddr T x i) {e : TypeId} (hT : P.underlying T = some (.slice e)) {sz : Nat} (hs : (sizeOf e).run P w = .ok sz w)
    {ad : Addr} {len cap : Nat} (hx : a.eval x = .slice (some ad) len cap) {k : Nat} (hi : a.eval i = .int .i64 k) (hk : k < len)
    (hK : wpListIn F n P ops Q rest (a.put o.dst (.pointer (some (ad.add (k * sz))))) w) : wpListIn F n P ops Q (o :: rest) a w := by
  refine wpListIn_plain hg fun K hK' => ?_
  unfold Oper.wpIn
  refine ⟨?_, ?_⟩
  · simp [Oper.about, hop, Sem.run_pure]
  · rw [Oper.semAt_plain F _ _ (by rw [hop]; intro c hc'; cases hc')]
    have h0 : (0 : Int) ≤ (k : Int) := by omega
    have h1 : (k : Int) < (len : Int) := by omega
    simp [execOp, hop, hx, hi, Instr.indexAt, asIntOf, run_underlying hT, h0, h1, hk, hs, Result.andThen]
    exact hK' _ _ hK

/-- A LOAD, one step of a walk. -/
theorem in_load {F : Fence} {n : Nat} {P : Program} {w : World} {ops : Array Oper} {rest : List Oper} {o : Oper} {a : Go.Act} {Q : Exit → Go.Act → World → Prop}
    (hg : o.guard = none) {T : TypeId} {x : Operand} (hop : o.op = .load T x) {ad : Addr} (hx : a.eval x = .pointer (some ad)) {v : Value} (hl : (loadVar T ad).run P w = .ok v w)
    (hK : wpListIn F n P ops Q rest (a.put o.dst v) w) : wpListIn F n P ops Q (o :: rest) a w := by
  refine wpListIn_plain hg fun K hK' => ?_
  unfold Oper.wpIn
  refine ⟨?_, ?_⟩
  · simp [Oper.about, hop, Sem.run_pure]
  · rw [Oper.semAt_plain F _ _ (by rw [hop]; intro c hc'; cases hc')]
    simp [execOp, hop, hx, Instr.loadAt, Instr.sureAddr, hl, Result.andThen]
    exact hK' _ _ hK

/-- WHAT COMES: the elements from the last to the first, with their places. -/
def bkUp (zs : List Edit) (k : Nat) : List (Nat × Edit) := (List.range k).map fun j => (zs.length - 1 - j, zs[zs.length - 1 - j]?.getD Edit.z)
theorem bkUp_succ (zs : List Edit) (k : Nat) : bkUp zs (k + 1) = bkUp zs k ++ [(zs.length - 1 - k, zs[zs.length - 1 - k]?.getD Edit.z)] := by simp [bkUp, List.range_succ]
theorem bkUp_length (zs : List Edit) (k : Nat) : (bkUp zs k).length = k := by simp [bkUp]

/-- WHAT A ROUND KEEPS. -/
def KpI (n₀ Bs : Nat) (A B : World) : Prop := Below n₀ A B ∧ B.heap[Bs]? = A.heap[Bs]?

theorem load_edit {w : World} {ad : Addr} {x : Edit} (hc : ∀ (j : Nat) (u : Value), (cE x)[j]? = some u → w.cell? (ad.add j) = some u) : (loadVar 49 ad).run Try.prog w = .ok (.agg (cE x).toArray) w := by
  obtain ⟨v, h1, cs, h2, h3⟩ := run_loadVar_rep (w := w) (ok := fun _ => False) (base_ty 49 tEdit (by kernel_rfl)) (rep_cE _ _ x) hc
  rw [h1, h3, rep_eq h2]

set_option maxRecDepth 100000 in
set_option maxHeartbeats 2000000 in
/-- slices.Backward's closure. -/
theorem bk1_in (F : Fence) (n : Nat) (hf : F.fn 63) (hro : F.round = none) (hn : 1 ≤ n) (l Bs n₀ : Nat) (ad : Addr) (cap : Nat) (zs : List Edit) (hreach : zs.length ≤ 1000000000000) (hb : ad.block < n₀)
    (J Jx : List (Nat × Edit) → World → Prop)
    (hY : ∀ pre x W, J pre W → pre.length < zs.length → YieldAt F (n - 1) Try.prog l #[.int .i64 (x.1 : Int), .agg (cE x.2).toArray] W fun e W' =>
      (e = .returned (.bool true) ∧ J (pre ++ [x]) W' ∧ KpI n₀ Bs W W') ∨ (e = .returned (.bool false) ∧ Jx (pre ++ [x]) W'))
    (W : World) (hBs : W.heap[Bs]? = some (.cells #[.slice (some ad) zs.length cap] 32 (0, 0)))
    (hc : ∀ k, k < zs.length → ∀ (j : Nat) (u : Value), (cE (zs[k]?.getD Edit.z))[j]? = some u → W.cell? (ad.add (k * 16 + j)) = some u) (h0 : J [] W) :
    CallsIn F n Try.prog 63 #[.func (.yield l) #[] #[], .pointer (some ⟨Bs, 0, none⟩)] W fun e W' => (∃ v, e = .returned v) ∧
      ((∃ ys, ys = bkUp zs zs.length ∧ J ys W') ∨ (∃ pre, (∃ k, k ≤ zs.length ∧ pre = bkUp zs k) ∧ Jx pre W')) := by
  have hB0 : W.cell? ⟨Bs, 0, none⟩ = some (.slice (some ad) zs.length cap) := by simp [World.cell?, hBs]
  have w1 : IntKind.i64.wrap ((zs.length : Int) - 1) = (zs.length : Int) - 1 := by rw [IntKind.wrap_i64]; omega
  refine callsIn_of_wp Try.func63 rfl hf ?_ hro
  simp only [Try.ntmps63, List.size_toArray, List.length_cons, List.length_nil, Nat.reduceAdd, Nat.reduceSub, Array.replicate_succ, Array.replicate_zero, List.push_toArray, List.append_toArray, List.nil_append, List.cons_append]
  gi_wp2
  gi_loopw [3] (fun i wr => ∃ k : Nat, k ≤ zs.length ∧ i = .int .i64 ((zs.length : Int) - 1 - k) ∧ J (bkUp zs k) wr ∧ KpI n₀ Bs W wr)
    (fun i _ => ((intOf i) + 1).toNat)
  case atStart => exact ⟨0, Nat.zero_le _, by simp, h0, Below.refl _ _, rfl⟩
  case round =>
    obtain ⟨k, hk, rfl, hJs, hnx, hnb⟩ := hrel
    have hB1 : wr.cell? ⟨Bs, 0, none⟩ = some (.slice (some ad) zs.length cap) := by simp [World.cell?, hnb, hBs]
    by_cases hlt : k < zs.length
    · have hk1 : zs.length - 1 - k < zs.length := by omega
      have hcx : ∀ (j : Nat) (u : Value), (cE (zs[zs.length - 1 - k]?.getD Edit.z))[j]? = some u → wr.cell? ((ad.add ((zs.length - 1 - k) * 16)).add j) = some u := fun j u hu => by
        rw [add_add]
        exact (hnx.cell (by rw [add_block]; exact hb)).trans (hc _ hk1 j u hu)
      have hJn : ∀ W', J (bkUp zs k ++ [(zs.length - 1 - k, zs[zs.length - 1 - k]?.getD Edit.z)]) W' → J (bkUp zs (k + 1)) W' := fun W' h => by rw [bkUp_succ]; exact h
      have hJm : ∀ W', Jx (bkUp zs k ++ [(zs.length - 1 - k, zs[zs.length - 1 - k]?.getD Edit.z)]) W' → Jx (bkUp zs (k + 1)) W' := fun W' h => by rw [bkUp_succ]; exact h
      have hq : ((zs.length : Int) - 1 - k) = ((zs.length - 1 - k : Nat) : Int) := by omega
      rw [hq]
      have hq2 : ((zs.length - 1 - k : Nat) : Int) - 1 = (zs.length : Int) - 1 - ((k + 1 : Nat) : Int) := by omega
      generalize zs[zs.length - 1 - k]?.getD Edit.z = x at hcx hJn hJm
      generalize zs.length - 1 - k = q at *
      obtain ⟨fn, tmps, assign, body, hy, hR⟩ := hY _ (q, x) wr hJs (by rw [bkUp_length]; exact hlt)
      dsimp only at hy
      have hs : (sizeOf 49).run Try.prog wr = .ok 16 wr := sizeOf_run (base_ty 49 tEdit (by kernel_rfl))
      gi_wp2_with (first | refine in_idx rfl rfl Try.underlying32 hs rfl rfl hk1 ?_ | refine in_load rfl rfl rfl (load_edit hcx) ?_)
      refine hR.mono ?_
      rintro e W3 (⟨rfl, hJ3, hk3⟩ | ⟨rfl, hJx3⟩)
      · have hw : IntKind.i64.wrap ((q : Int) - 1) = (q : Int) - 1 := by rw [IntKind.wrap_i64]; omega
        gi_wp2
        go_roundw
        case rel => exact ⟨k + 1, by omega, by simp, hJn _ hJ3, hnx.trans hk3.1, hk3.2.trans hnb⟩
        case measure => simp [intOf, hw]; omega
      · gi_wp2
        refine bodyPost_ret (results_none rfl _ _ _) rfl ?_
        exact ⟨⟨_, rfl⟩, .inr ⟨_, ⟨k + 1, by omega, rfl⟩, hJm _ hJx3⟩⟩
    · obtain rfl : k = zs.length := by omega
      gi_wp2
      go_end0
      exact ⟨⟨_, rfl⟩, .inl ⟨_, rfl, hJs⟩⟩

set_option maxRecDepth 100000 in
set_option maxHeartbeats 1000000 in
theorem bk1_nil_in (F : Fence) (n : Nat) (hf : F.fn 63) (hro : F.round = none) (l Bs : Nat) (A : Option Addr) (cap : Nat) (J : List (Nat × Edit) → World → Prop) (W : World) (hB0 : W.cell? ⟨Bs, 0, none⟩ = some (.slice A 0 cap)) (h0 : J [] W) :
    CallsIn F n Try.prog 63 #[.func (.yield l) #[] #[], .pointer (some ⟨Bs, 0, none⟩)] W fun e W' => (∃ v, e = .returned v) ∧ J [] W' := by
  refine callsIn_of_wp Try.func63 rfl hf ?_ hro
  simp only [Try.ntmps63, List.size_toArray, List.length_cons, List.length_nil, Nat.reduceAdd, Nat.reduceSub, Array.replicate_succ, Array.replicate_zero, List.push_toArray, List.append_toArray, List.nil_append, List.cons_append]
  gi_wp2
  gi_loopw [3] (fun i wr => i = .int .i64 (-1) ∧ J [] wr) (fun _ _ => 0)
  case atStart => exact ⟨rfl, h0⟩
  case round =>
    obtain ⟨rfl, hJs⟩ := hrel
    gi_wp2
    go_end0
    exact ⟨⟨_, rfl⟩, hJs⟩

set_option maxHeartbeats 1000000 in
/-- slices.Backward: the slice is boxed; the closure holds the box. -/
theorem bk_in (F : Fence) (n : Nat) (hf : F.fn 55) (hro : F.round = none) (A : Option Addr) (len cap : Nat) (w : World) :
    CallsIn F n Try.prog 55 #[.slice A len cap] w fun e w' => e = .returned (.func (.func 63) #[] #[.pointer (some ⟨w.heap.size, 0, none⟩)]) ∧ w' = w.alloc (.cells #[.slice A len cap] 32) := by
  refine callsIn_of_wp Try.func55 rfl hf ?_ hro
  simp only [Try.ntmps55, List.size_toArray, List.length_cons, List.length_nil, Nat.reduceAdd, Nat.reduceSub, Array.replicate_succ, Array.replicate_zero, List.push_toArray, List.append_toArray, List.nil_append, List.cons_append]
  gi_wp2
  go_ret
  exact ⟨rfl, rfl⟩

/-- A slice value that holds edits, in a block below n₀; or there are none. -/
def Eds (n₀ : Nat) (W : World) (A : Option Addr) (zs : List Edit) : Prop :=
  zs = [] ∨ ∃ ad : Addr, A = some ad ∧ ad.block < n₀ ∧ ∀ k, k < zs.length → ∀ (j : Nat) (u : Value), (cE (zs[k]?.getD Edit.z))[j]? = some u → W.cell? (ad.add (k * 16 + j)) = some u
theorem Eds.below {n₀ : Nat} {V W : World} (h : Below n₀ V W) {A : Option Addr} {zs : List Edit} : Eds n₀ V A zs → Eds n₀ W A zs
  | .inl e => .inl e
  | .inr ⟨ad, e, hb, hc⟩ => .inr ⟨ad, e, hb, fun k hk j u hu => (h.cell (by rw [add_block]; exact hb)).trans (hc k hk j u hu)⟩

theorem bk_stops (F : Fence) (n : Nat) (hf : F.fn 63) (hro : F.round = none) (hn : 1 ≤ n) (Bs n₀ : Nat) (A : Option Addr) (cap : Nat) (zs : List Edit) (hreach : zs.length ≤ 1000000000000) (w : World) (hBl : Bs < w.heap.size) (hn₀ : n₀ ≤ w.heap.size)
    (hBs : w.heap[Bs]? = some (.cells #[.slice A zs.length cap] 32 (0, 0))) (hI : Eds n₀ w A zs) :
    SeqStopsK F n Try.prog 63 #[.pointer (some ⟨Bs, 0, none⟩)] (fun x : Nat × Edit => #[.int .i64 (x.1 : Int), .agg (cE x.2).toArray]) (KpI n₀ Bs) (fun ys => ys = bkUp zs zs.length)
      (fun pre => ∃ k, k ≤ zs.length ∧ pre = bkUp zs k) zs.length w := fun l J Jx W hW _ _ hY h0 => by
  have hBs' : W.heap[Bs]? = some (.cells #[.slice A zs.length cap] 32 (0, 0)) := (hW.block Bs hBl).trans hBs
  rcases hI.below (hW.mono hn₀) with rfl | ⟨ad, rfl, hb, hc⟩
  · exact (bk1_nil_in F n hf hro l Bs A cap J W (by simp [World.cell?, hBs']) h0).mono fun e W' ⟨he, hj⟩ => ⟨he, .inl ⟨_, rfl, hj⟩⟩
  · exact bk1_in F n hf hro hn l Bs n₀ ad cap zs hreach hb J Jx hY W hBs' hc h0
end Go.Iw
