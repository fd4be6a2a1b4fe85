/- Contracts proved by hand: shelf.pages (slices.Chunk as an iterator). -/
import Derived.RangeFuncBox
import Derived.RangeFuncLeaves
import Derived.Shelf.Abstract
import Derived.WalkKit
import Derived.OwnWalkIn
import Derived.TacticsInMore
import Derived.LoopNIn
import Derived.LoopIn
import Derived.Maps.AppendAt
import Derived.Sort.QuietIn
import Derived.Test.YtcpeakceigidpaaDoorKvX
import Derived.Test.YtcpeakceigidpaaDoorVBs
set_option linter.all false
namespace Go.Iw
open Go.Iv Go.Proofs Go.RowKit Go.Shelf
attribute [local go_sem] Oper.semAt_some
theorem in_load {F : Fence} {n : Nat} {P : Program} {w : World} {ops : Array Oper} {rest : List Oper} {o : Oper} {a : Go.Act} {Q : Exit → Go.Act → World → Prop}
 (hg : o.guard = none) {T : TypeId} {x : Operand} (hop : o.op = .load T x) {ad : Addr} (hx : a.eval x = .pointer (some ad)) {v : Value} (hl : (loadVar T ad).run P w = .ok v w)
 (hK : wpListIn F n P ops Q rest (a.put o.dst v) w) : wpListIn F n P ops Q (o :: rest) a w := by
 refine wpListIn_plain hg fun K hK' => ?_
 unfold Oper.wpIn
 refine ⟨?_, ?_⟩
 · simp [Oper.about, hop, Sem.run_pure]
 · rw [Oper.semAt_plain F _ _ (by rw [hop]; intro c hc'; cases hc')]
   simp [execOp, hop, hx, Instr.loadAt, Instr.sureAddr, hl, Result.andThen]
   exact hK' _ _ hK
def chV (A : Option Addr) (N k : Nat) : Value := .slice (A.map fun a => a.add (64 * k)) (min 64 (N - 64 * k)) (min 64 (N - 64 * k))
def chM (N : Nat) : Nat := (N + 63) / 64
set_option maxRecDepth 100000 in
set_option maxHeartbeats 2000000 in
theorem chunk1_in (n l B1 B2 : Nat) (ad : Addr) (cap N : Nat) (hN : N ≤ 1000000) (hcap : N ≤ cap)
 (J Jx : Nat → World → Prop) (W : World) (hB1 : W.heap[B1]? = some (.cells #[.slice (some ad) N cap] 22 (0, 0))) (hB2 : W.heap[B2]? = some (.cells #[.int .i64 64] 3 (0, 0)))
 (hY : ∀ (k : Nat) (A : World), k < chM N → J k A → YieldAt Fence.wide n Tryd.prog l #[chV (some ad) N k] A fun e B =>
  (e = .returned (.bool true) ∧ J (k + 1) B ∧ B.heap[B1]? = A.heap[B1]? ∧ B.heap[B2]? = A.heap[B2]?) ∨ (e = .returned (.bool false) ∧ Jx (k + 1) B))
 (hJb : ∀ k A B, J k A → Below A.heap.size A B → J k B) (h0 : J 0 W) :
 CallsIn Fence.wide (n + 1) Tryd.prog 73 #[.func (.yield l) #[] #[], .pointer (some ⟨B1, 0, none⟩), .pointer (some ⟨B2, 0, none⟩)] W fun e W' => (∃ v, e = .returned v) ∧ (J (chM N) W' ∨ ∃ k, Jx k W') := by
 refine callsIn_of_wp Tryd.func73 rfl trivial ?_ rfl
 simp only [Tryd.ntmps73, List.size_toArray, List.length_cons, List.length_nil, Nat.reduceAdd, Nat.reduceSub, Array.replicate_succ, Array.replicate_zero, List.push_toArray, List.append_toArray, List.nil_append, List.cons_append]
 gi_wp2
 gi_loopw [4] (fun i wr => ∃ k : Nat, k ≤ chM N ∧ i = .int .i64 (64 * (k : Int)) ∧ J k wr ∧ wr.heap[B1]? = W.heap[B1]? ∧ wr.heap[B2]? = W.heap[B2]?)
  (fun i _ => 64 * (chM N) - (intOf i).toNat)
 case atStart => exact ⟨0, Nat.zero_le _, by simp, h0, rfl, rfl⟩
 case round =>
  obtain ⟨k, hk, rfl, hJs, hb1, hb2⟩ := hrel
  have hc1 : wr.cell? ⟨B1, 0, none⟩ = some (.slice (some ad) N cap) := by simp [World.cell?, hb1, hB1]
  have hc2 : wr.cell? ⟨B2, 0, none⟩ = some (.int .i64 64) := by simp [World.cell?, hb2, hB2]
  by_cases hlt : k < chM N
  · have hkN : 64 * k < N := by unfold chM at hlt; omega
    have hkNi : (64 * (k : Int)) < (N : Int) := by omega
    gi_wp2
    gi_quiet (fail)
    have hmin : (if ((N - 64 * k : Nat) : Int) < 64 then ((N - 64 * k : Nat) : Int) else 64) = ((min 64 (N - 64 * k) : Nat) : Int) := by
     split <;> omega
    rw [hmin]
    have hJ1 : J k (wr.drewN nq) := hJb _ _ _ hJs ⟨rfl, rfl, rfl, Nat.le_refl _, fun _ _ => rfl⟩
    obtain ⟨w1, hw1⟩ : ∃ w1, wr.drewN nq = w1 := ⟨_, rfl⟩
    have hd1 : w1.heap[B1]? = W.heap[B1]? := by rw [← hw1]; exact hb1
    have hd2 : w1.heap[B2]? = W.heap[B2]? := by rw [← hw1]; exact hb2
    rw [hw1] at hJ1 ⊢
    clear hw1 hc1 hc2 hb1 hb2 hJs
    have hc1 : w1.cell? ⟨B1, 0, none⟩ = some (.slice (some ad) N cap) := by simp [World.cell?, hd1, hB1]
    have hc2 : w1.cell? ⟨B2, 0, none⟩ = some (.int .i64 64) := by simp [World.cell?, hd2, hB2]
    obtain ⟨fn, tmps, assign, body, hy, hR⟩ := hY k w1 hlt hJ1
    simp only [chV, Option.map_some] at hy
    obtain ⟨L, hL⟩ : ∃ L, min 64 (N - 64 * k) = L := ⟨_, rfl⟩
    have hL1 : 64 * k + L ≤ N := by omega
    rw [hL] at hy ⊢
    gi_wp2
    refine hR.mono ?_
    rintro e W3 (⟨rfl, hJ3, h31, h32⟩ | ⟨rfl, hJx3⟩)
    · have hc3 : W3.cell? ⟨B2, 0, none⟩ = some (.int .i64 64) := by simp [World.cell?, h32, hd2, hB2]
      gi_wp2
      go_roundw
      case rel => exact ⟨k + 1, by omega, by simp; omega, hJ3, h31.trans hd1, h32.trans hd2⟩
      case measure => simp [intOf]; omega
    · gi_wp2
      refine bodyPost_ret (results_none rfl _ _ _) rfl ?_
      exact ⟨⟨_, rfl⟩, .inr ⟨_, hJx3⟩⟩
  · have hkm : k = chM N := by omega
    have hkN : ¬ 64 * k < N := by unfold chM at hkm; omega
    have hkNi : ¬ (64 * (k : Int)) < (N : Int) := by omega
    gi_wp2
    go_end0
    exact ⟨⟨_, rfl⟩, .inl (hkm ▸ hJs)⟩
set_option maxRecDepth 100000 in
set_option maxHeartbeats 1000000 in
theorem chunk1_nil_in (n l B1 B2 : Nat) (A : Option Addr) (cap : Nat) (J : Nat → World → Prop) (W : World) (hc1 : W.cell? ⟨B1, 0, none⟩ = some (.slice A 0 cap)) (h0 : J 0 W) :
 CallsIn Fence.wide (n + 1) Tryd.prog 73 #[.func (.yield l) #[] #[], .pointer (some ⟨B1, 0, none⟩), .pointer (some ⟨B2, 0, none⟩)] W fun e W' => (∃ v, e = .returned v) ∧ J 0 W' := by
 refine callsIn_of_wp Tryd.func73 rfl trivial ?_ rfl
 simp only [Tryd.ntmps73, List.size_toArray, List.length_cons, List.length_nil, Nat.reduceAdd, Nat.reduceSub, Array.replicate_succ, Array.replicate_zero, List.push_toArray, List.append_toArray, List.nil_append, List.cons_append]
 gi_wp2
 gi_loopw [4] (fun i wr => i = .int .i64 0 ∧ wr = W) (fun _ _ => 0)
 case atStart => exact ⟨rfl, rfl⟩
 case round =>
  obtain ⟨rfl, rfl⟩ := hrel
  gi_wp2
  go_end0
  exact ⟨⟨_, rfl⟩, h0⟩
set_option maxHeartbeats 1000000 in
theorem chunk_in (n : Nat) (A : Option Addr) (len cap : Nat) (w : World) :
 CallsIn Fence.wide n Tryd.prog 60 #[.slice A len cap, .int .i64 64] w fun e w' => e = .returned (.func (.func 73) #[] #[.pointer (some ⟨w.heap.size, 0, none⟩), .pointer (some ⟨w.heap.size + 1, 0, none⟩)]) ∧ w' = (w.alloc (.cells #[.slice A len cap] 22)).alloc (.cells #[.int .i64 64] 3) := by
 refine callsIn_of_wp Tryd.func60 rfl trivial ?_ rfl
 simp only [Tryd.ntmps60, List.size_toArray, List.length_cons, List.length_nil, Nat.reduceAdd, Nat.reduceSub, Array.replicate_succ, Array.replicate_zero, List.push_toArray, List.append_toArray, List.nil_append, List.cons_append]
 gi_wp2
 go_ret
 exact ⟨rfl, rfl⟩
theorem chunk_it {w : World} {B1 B2 : Nat} {A : Option Addr} {cap N : Nat} (hN : N ≤ 1000000) (hcap : N ≤ cap) (hA : N = 0 ∨ ∃ ad, A = some ad)
 (hB1 : w.heap[B1]? = some (.cells #[.slice A N cap] 22 (0, 0))) (hB2 : w.heap[B2]? = some (.cells #[.int .i64 64] 3 (0, 0))) :
 ItG Tryd.prog 73 #[.pointer (some ⟨B1, 0, none⟩), .pointer (some ⟨B2, 0, none⟩)] ((List.range (chM N)).map fun k => #[chV A N k]) (fun b => b = B1 ∨ b = B2) w := by
 intro n l J Jx W hs hok hJ hJx hY h0
 have h1 := (hok B1 (.inl rfl)).trans hB1
 have h2 := (hok B2 (.inr rfl)).trans hB2
 rcases hA with rfl | ⟨ad, rfl⟩
 · refine (chunk1_nil_in n l B1 B2 A cap J W (by simp [World.cell?, h1]) h0).mono ?_
   rintro e W' ⟨he, hj⟩
   exact ⟨he, .inl (by simpa [chM] using hj)⟩
 · refine (chunk1_in n l B1 B2 ad cap N hN hcap J Jx W h1 h2 (fun k A hk hJk => ?_) hJ h0).mono ?_
   · obtain ⟨fn, tmps, assign, body, hy, hR⟩ := hY k A (by simpa using hk) hJk
     refine ⟨fn, tmps, assign, body, by simpa using hy, hR.mono ?_⟩
     rintro e B (⟨he, hj, hb⟩ | ⟨he, hj⟩)
     · exact .inl ⟨he, hj, hb B1 (.inl rfl), hb B2 (.inr rfl)⟩
     · exact .inr ⟨he, hj⟩
   · rintro e W' ⟨he, hj⟩
     exact ⟨he, by simpa using hj⟩
theorem ownsRow_below {w w' : World} {base : Nat} {e : TypeId} {size n : Nat} {v : Value} {xs : List Value} (h : w.ownsRow base e size v n xs) (hb : Below w.heap.size w w') : w'.ownsRow base e size v n xs := by
 refine ⟨h.1, h.2.imp id fun ⟨g, cap, cur, e1, h1, h2, r⟩ => ⟨g, cap, cur, e1, h1, (hb.block g (Array.getElem?_eq_some_iff.1 h2).1).trans h2, r⟩⟩
theorem Boxed_below {w w' : World} {b : Nat} {t : TypeId} {v : Value} (h : Boxed w b t v) (hb : Below w.heap.size w w') : Boxed w' b t v := (hb.block b h.lt).trans h
theorem Boxed_putObj {w : World} {b l : Nat} {t : TypeId} {v : Value} {o : Obj} {r : Loop} (h : Boxed w b t v) (hl : w.heap[l]? = some (.loop r)) : Boxed (w.putObj l o) b t v :=
 (World.putObj_heap_other (fun e => by subst e; rw [show w.heap[b]? = _ from h] at hl; cases hl)).trans h
def pgC (at0 : Int) (A : Option Addr) (N k : Nat) : List Value := (List.range k).flatMap fun (j : Nat) => [.int .i64 (60 + at0 + (j : Int)), chV A N j]
theorem pgC_succ (at0 : Int) (A : Option Addr) (N k : Nat) : pgC at0 A N (k + 1) = pgC at0 A N k ++ [.int .i64 (60 + at0 + (k : Int)), chV A N k] := by simp [pgC, List.range_succ]
structure PgI (w w4 : World) (at0 : Int) (A : Option Addr) (N cap k : Nat) (W : World) : Prop where
 row : ∃ v, Boxed W (w.heap.size + 1) 78 v ∧ W.ownsRow w.heap.size 82 2 v k (pgC at0 A N k)
 at_ : Boxed W w.heap.size 3 (.int .i64 at0)
 b1 : Boxed W (w.heap.size + 2) 22 (.slice A N cap)
 b2 : Boxed W (w.heap.size + 3) 3 (.int .i64 64)
 low : Below w.heap.size w W
theorem PgI.put {w w4 : World} {at0 : Int} {A : Option Addr} {N cap k : Nat} {W : World} {o : Obj} {l : Nat} (h : PgI w w4 at0 A N cap k W) (hl : ∃ r, W.heap[l]? = some (.loop r)) (hn : w.heap.size ≤ l) : PgI w w4 at0 A N cap k (W.putObj l o) := by
 obtain ⟨r, hl⟩ := hl
 obtain ⟨⟨v, hv, hr⟩, h1, h2, h3, h4⟩ := h
 exact ⟨⟨v, Boxed_putObj hv hl, ownsRow_putObj hr o hl rfl⟩, Boxed_putObj h1 hl, Boxed_putObj h2 hl, Boxed_putObj h3 hl, h4.trans ⟨rfl, rfl, rfl, by simp [World.putObj], fun k hk => World.putObj_heap_other (by omega)⟩⟩
theorem PgI.grow {w w4 : World} {at0 : Int} {A : Option Addr} {N cap k : Nat} {W W' : World} (h : PgI w w4 at0 A N cap k W) (hb : Below W.heap.size W W') : PgI w w4 at0 A N cap k W' := by
 obtain ⟨⟨v, hv, hr⟩, h1, h2, h3, h4⟩ := h
 exact ⟨⟨v, Boxed_below hv hb, ownsRow_below hr hb⟩, Boxed_below h1 hb, Boxed_below h2 hb, Boxed_below h3 hb, h4.trans (hb.mono h4.size)⟩
theorem new_cells (W : World) (cs : List Value) (e : TypeId) (j : Nat) (u : Value) (hu : cs[j]? = some u) : (W.alloc (.cells cs.toArray e)).cell? (Addr.add ⟨W.heap.size, 0, none⟩ j) = some u := by
 rw [Addr.add_mid]
 have h : (W.alloc (.cells cs.toArray e)).heap[W.heap.size]? = some (.cells cs.toArray e) := World.alloc_heap_new _ _
 simp only [World.cell?, Nat.zero_add, h]
 simpa using hu
theorem one_pg (x : Int) (A : Option Addr) (n c : Nat) : ∀ u ∈ [Value.int .i64 x, .slice A n c], u.oneCell' = true := by
 intro u hu
 simp at hu
 rcases hu with rfl | rfl <;> rfl
set_option maxRecDepth 100000 in
set_option maxHeartbeats 4000000 in
theorem pages_in (at0 : Int) (hat : 0 ≤ at0) (hat2 : at0 ≤ 1000000000) (A : Option Addr) (N cap : Nat) (hN : N ≤ 1000000) (hcap : N ≤ cap) (hA : N = 0 ∨ ∃ ad, A = some ad) (w : World) :
 CallsIn Fence.wide 3 Tryd.prog 35 #[.int .i64 at0, .slice A N cap] w fun e W' => ∃ v, e = .returned v ∧ W'.ownsRow w.heap.size 82 2 v (chM N) (pgC at0 A N (chM N)) ∧ Below w.heap.size w W' := by
 obtain ⟨i0, hi, z0, hz0, hz3, hz1, hz2⟩ : ∃ i, Tryd.prog.info? 82 = some i ∧ ∃ z, i.zero = some z ∧ z.cells.size = 2 ∧ i.size = 2 ∧ i.bytes = 32 := ⟨Tryd.t82, by kernel_rfl, _, rfl, rfl, rfl, rfl⟩
 have hf60 : Fence.wide.fn 60 := trivial
 refine callsIn_of_wp_marks Tryd.func35 rfl trivial ?_ rfl
 simp only [Tryd.ntmps35, List.size_toArray, List.length_cons, List.length_nil, Nat.reduceAdd, Nat.reduceSub, Array.replicate_succ, Array.replicate_zero, List.push_toArray, List.append_toArray, List.nil_append, List.cons_append]
 gi_wp2_with (gi_at_call 60; refine (chunk_in _ _ _ _ _).mono ?_; rintro e w' ⟨rfl, rfl⟩)
 obtain ⟨w4, hw4⟩ : ∃ w4, (((w.alloc (.cells #[.int .i64 at0] 3)).alloc (.cells #[.slice none 0 0] 78)).alloc (.cells #[.slice A N cap] 22)).alloc (.cells #[.int .i64 64] 3) = w4 := ⟨_, rfl⟩
 have hs4 : w4.heap.size = w.heap.size + 4 := by rw [← hw4]; simp
 have k0 : Boxed w4 w.heap.size 3 (.int .i64 at0) := by rw [← hw4]; exact ((Boxed.new w 3 _).alloc _).alloc _ |>.alloc _
 have k1 : Boxed w4 (w.heap.size + 1) 78 (.slice none 0 0) := by
  rw [← hw4]
  have := Boxed.new (w.alloc (.cells #[.int .i64 at0] 3)) 78 (.slice none 0 0)
  rw [World.size_alloc] at this
  exact (this.alloc _).alloc _
 have k2 : Boxed w4 (w.heap.size + 2) 22 (.slice A N cap) := by
  rw [← hw4]
  have := Boxed.new ((w.alloc (.cells #[.int .i64 at0] 3)).alloc (.cells #[.slice none 0 0] 78)) 22 (.slice A N cap)
  rw [World.size_alloc, World.size_alloc] at this
  exact this.alloc _
 have k3 : Boxed w4 (w.heap.size + 3) 3 (.int .i64 64) := by
  rw [← hw4]
  have := Boxed.new (((w.alloc (.cells #[.int .i64 at0] 3)).alloc (.cells #[.slice none 0 0] 78)).alloc (.cells #[.slice A N cap] 22)) 3 (.int .i64 64)
  rw [World.size_alloc, World.size_alloc, World.size_alloc] at this
  exact this
 have hlow : Below w.heap.size w w4 := by rw [← hw4]; exact (((Below.refl _ w).alloc (Nat.le_refl _) _).alloc (by simp) _).alloc (by simp; omega) _ |>.alloc (by simp; omega) _
 rw [hw4]
 clear hw4
 refine rf_law (gf := 73) (lb := #[.pointer (some ⟨w.heap.size + 2, 0, none⟩), .pointer (some ⟨w.heap.size + 3, 0, none⟩)]) (okS := fun b => b = w.heap.size + 2 ∨ b = w.heap.size + 3) (xs := (List.range (chM N)).map fun k => #[chV A N k]) rfl
  (enters_of Tryd.func73 (by kernel_rfl) rfl) (by simp) (chunk_it hN hcap hA k2 k3) (by rintro b (rfl | rfl) <;> omega)
  (fun k W => PgI w w4 at0 A N cap k W) (fun _ _ => False) (fun k W o h hl => h.put hl (by omega)) (fun k W W' h hb => h.grow hb) (fun _ _ _ h => h.elim) (fun _ _ _ h => h.elim)
  ⟨⟨_, k1, World.ownsRow_nil _ _ _ _⟩, k0, k2, k3, hlow⟩ ?round ?done (fun c W h => h.elim)
 case round =>
  intro k W r hk hIk hl hD
  have hkM : k < chM N := by simpa using hk
  have hx : ((List.range (chM N)).map fun k => #[chV A N k])[k] = #[chV A N k] := by simp
  obtain ⟨A2, L, hch⟩ : ∃ A2 L, chV A N k = .slice A2 L L := ⟨_, _, rfl⟩
  rw [hx, hch]
  have hl1 : W.heap.size > w4.heap.size + 1 := (Array.getElem?_eq_some_iff.1 hl).1
  gi_wp2
  refine ⟨hl, fun _ _ => trivial, ?_⟩
  have hI1 : PgI w w4 at0 A N cap k (W.putObj (w4.heap.size + 1) (.loop { r with state := .busy })) := hIk.put ⟨_, hl⟩ (by omega)
  have hl2 := World.putObj_heap_same (o := Obj.loop { r with state := .busy }) hl1
  have hD2 : (W.putObj (w4.heap.size + 1) (.loop { r with state := .busy })).heap[w4.heap.size]? = some (.deferred (some [])) := (World.putObj_heap_other (by omega)).trans hD
  have hok2 : ∀ b, (b = w.heap.size + 2 ∨ b = w.heap.size + 3) → (W.putObj (w4.heap.size + 1) (.loop { r with state := .busy })).heap[b]? = W.heap[b]? := fun b hb => World.putObj_heap_other (by omega)
  generalize W.putObj (w4.heap.size + 1) (.loop { r with state := .busy }) = W1 at hI1 hl2 hD2 hok2 ⊢
  obtain ⟨⟨v, hv, hr⟩, h1, h2, h3, h4⟩ := hI1
  obtain ⟨A', c', rfl⟩ : ∃ A' c', v = .slice A' k c' := by
   rcases hr.2 with ⟨rfl, h0⟩ | ⟨g, cap', cur, rfl, _⟩
   · exact ⟨none, 0, by rw [h0]⟩
   · exact ⟨_, _, rfl⟩
  have hcv := hv.cell
  have hca := h1.cell
  have hkN : k ≤ 1000000 := by unfold chM at hkM; omega
  have e1 : IntKind.i64.wrap (60 + at0) = 60 + at0 := by rw [IntKind.wrap_i64]; omega
  have e2 : IntKind.i64.wrap (60 + at0 + (k : Int)) = 60 + at0 + (k : Int) := by rw [IntKind.wrap_i64]; omega
  have hsz1 : w.heap.size + 4 ≤ W1.heap.size := by have := (Array.getElem?_eq_some_iff.1 hl2).1; omega
  clear hIk hl hD hl1 k0 k1 k2 k3 hlow
  gi_wp2_with (gi_at_builtin; refine wpListIn_append_own _ rfl _ _ 78 rfl w.heap.size 82 i0 z0 2 32 Tryd.underlying78 hi hz0 hz1 hz2 hz3 (by decide) _ _ _ rfl (hr.alloc _) ⟨W1.heap.size, 0, none⟩ 1 1 [.int .i64 (60 + at0 + (k : Int)), .slice A2 L L] rfl rfl (new_cells W1 [.int .i64 (60 + at0 + (k : Int)), .slice A2 L L] 82) (one_pg _ _ _ _) (by simp only [maxLen]; omega) (by omega) (by simp; omega) ?_; intro v' w3 hown' hgrow _; obtain ⟨g', cap', rfl⟩ := ownsRow_succ hown'; obtain ⟨hv1, hv3, hr3, hk3, hb3⟩ := hv.appended (by decide) hr (by omega) (Nat.le_succ _) hown' hgrow; have hc1 := hv1.cell; have hf1 := hv1.frozen)
  have b0 := ((h1.alloc _).kept hgrow (h1.not_row (by decide) hr)).other (show w.heap.size ≠ w.heap.size + 1 by omega) (.slice (some ⟨g', 0, none⟩) (k + 1) cap')
  have b2 := ((h2.alloc _).kept hgrow (h2.not_row (by decide) hr)).other (show w.heap.size + 2 ≠ w.heap.size + 1 by omega) (.slice (some ⟨g', 0, none⟩) (k + 1) cap')
  have b3 := ((h3.alloc _).kept hgrow (h3.not_row (by decide) hr)).other (show w.heap.size + 3 ≠ w.heap.size + 1 by omega) (.slice (some ⟨g', 0, none⟩) (k + 1) cap')
  refine ⟨⟨hk3.2 _ _ hl2 rfl, hk3.2 _ _ hD2 rfl⟩, ?_, ⟨⟨_, hv3, ?_⟩, b0, b2, b3, h4.trans hb3⟩⟩
  · rintro b (rfl | rfl)
    · exact (show _ = _ from b2).trans ((show _ = _ from h2).symm.trans (hok2 _ (.inl rfl)))
    · exact (show _ = _ from b3).trans ((show _ = _ from h3).symm.trans (hok2 _ (.inr rfl)))
  · rw [pgC_succ, hch]
    exact hr3
 case done =>
  intro W hI hD
  obtain ⟨⟨v, hv, hr⟩, h1, h2, h3, h4⟩ := hI
  have hlen : ((List.range (chM N)).map fun k => #[chV A N k]).length = chM N := by simp
  rw [hlen] at hr
  have hc := hv.cell
  gi_wp2
  refine ⟨by simp, .inl ⟨_, _, rfl, run_takeDeferred hD, ?_⟩⟩
  exact ⟨_, results_tmp rfl _ _ _, v, rfl, ownsRow_putObj hr _ hD rfl, h4.trans ⟨rfl, rfl, rfl, by simp [World.putObj], fun k hk => World.putObj_heap_other (by omega)⟩⟩
end Go.Iw
