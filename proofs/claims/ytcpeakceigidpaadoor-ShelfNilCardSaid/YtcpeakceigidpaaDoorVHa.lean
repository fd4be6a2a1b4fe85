/- Contracts proved by hand: what Shelf.all hands on. -/
import Derived.Test.YtcpeakceigidpaaDoorVHq
set_option linter.all false
namespace Go.Iw
open Go.Iv Go.Proofs Go.RowKit Go.Shelf
attribute [local go_sem] Oper.semAt_some
theorem tyOp : TyP Tryd.prog (.op tslot) 69 := by
 obtain ⟨⟨e, hu, h⟩, _⟩ := baseH.ty 70 (.arr 48 (.op tslot)) (by kernel_rfl)
 have : e = 69 := by
  have h70 := Tryd.underlying70
  rw [h70] at hu
  cases hu; rfl
 exact this ▸ h
theorem idx_op (cs : List Value) (k : Nat) (hk : k < 48) (hlen : cs.length = 48) (W : World) : (Instr.index 70 (.agg cs.toArray) (.int .i64 k)).run Tryd.prog W = .ok (cs[k]?.getD undef) W := by
 have h0 : (0 : Int) ≤ (k : Int) := by omega
 have h2 : (k : Int) < (48 : Int) := by omega
 have hget : cs[k]? = some (cs[k]'(by omega)) := List.getElem?_eq_getElem (by omega)
 have hs : (sizeOf 69).run Tryd.prog W = .ok 1 W := sizeOf_run tyOp
 have hag : (isAgg 69).run Tryd.prog W = .ok false W := by simp [isAgg, underlying, Tryd.underlying69]
 simp only [Instr.index, asIntOf, Sem.run_bind, Sem.run_pure, Result.andThen_ok, run_underlying Tryd.underlying70, hs, Sem.run_ite]
 rw [if_pos ⟨h0, h2⟩]
 simp [part, Sem.run_bind, hag, hget]
theorem in_index {F : Fence} {n : Nat} {w : World} {ops : Array Oper} {rest : List Oper} {o : Oper} {a : Go.Act} {Q : Exit → Go.Act → World → Prop}
 (hg : o.guard = none) {x i : Operand} (hop : o.op = .index 70 x i) {cs : List Value} (hx : a.eval x = .agg cs.toArray) {k : Nat} (hi : a.eval i = .int .i64 k) (hk : k < 48) (hlen : cs.length = 48)
 (hK : wpListIn F n Tryd.prog ops Q rest (a.put o.dst (cs[k]?.getD undef)) w) : wpListIn F n Tryd.prog ops Q (o :: rest) a w := by
 refine wpListIn_plain hg fun K hK' => ?_
 unfold Oper.wpIn
 refine ⟨?_, ?_⟩
 · simp [Oper.about, hop, Sem.run_pure]
 · rw [Oper.semAt_plain F _ _ (by rw [hop]; intro c hc'; cases hc')]
   simp [execOp, hop, hx, hi, idx_op cs k hk hlen, Result.andThen]
   exact hK' _ _ hK
def itS (l : List (Option slot)) (cs : List Value) (k : Nat) : List (Array Value) := (List.range k).filterMap fun i => match l[i]? with
 | some (some _) => some #[.int .i64 (i : Int), cs[i]?.getD undef]
 | _ => none
theorem itS_succ (l : List (Option slot)) (cs : List Value) (k : Nat) : itS l cs (k + 1) = itS l cs k ++ (match l[k]? with | some (some _) => [#[.int .i64 (k : Int), cs[k]?.getD undef]] | _ => []) := by
 unfold itS
 rw [List.range_succ, List.filterMap_append]
 congr 1
 cases h : l[k]? with
 | none => simp [h]
 | some o => cases o <;> simp [h]
theorem itS_pre (l : List (Option slot)) (cs : List Value) (k n : Nat) (h : k ≤ n) : itS l cs k <+: itS l cs n := by
 induction n with
 | zero => obtain rfl : k = 0 := by omega
           exact List.prefix_refl _
 | succ n ih =>
  rcases Nat.lt_or_ge n k with h' | h'
  · obtain rfl : k = n + 1 := by omega
    exact List.prefix_refl _
  · rw [itS_succ]
    exact (ih h').trans (List.prefix_append _ _)
set_option maxRecDepth 100000 in
set_option maxHeartbeats 4000000 in
theorem all1_in (n l Bs : Nat) (sd : Addr) (ls : List (Option slot)) (cs : List Value) (hls : ls.length = 48) (hcs : cs.length = 48)
 (hp : ∀ i : Nat, i < 48 → (ls[i]? = some none ∧ cs[i]? = some (.pointer none)) ∨ ∃ x a, ls[i]? = some (some x) ∧ cs[i]? = some (.pointer (some a)))
 (J Jx : Nat → World → Prop) (W : World) (hB : W.cell? ⟨Bs, 0, none⟩ = some (.pointer (some sd))) (hld : (loadVar 70 (sd.add 1)).run Tryd.prog W = .ok (.agg cs.toArray) W)
 (hY : ∀ (k : Nat) (A : World) (hk : k < (itS ls cs 48).length), J k A → YieldAt Fence.wide n Tryd.prog l (itS ls cs 48)[k] A fun e B => (e = .returned (.bool true) ∧ J (k + 1) B) ∨ (e = .returned (.bool false) ∧ Jx (k + 1) B))
 (h0 : J 0 W) :
 CallsIn Fence.wide (n + 1) Tryd.prog 68 #[.func (.yield l) #[] #[], .pointer (some ⟨Bs, 0, none⟩)] W fun e W' => (∃ v, e = .returned v) ∧ (J (itS ls cs 48).length W' ∨ ∃ k, Jx k W') := by
 refine callsIn_of_wp Tryd.func68 rfl trivial ?_ rfl
 simp only [Tryd.ntmps68, List.size_toArray, List.length_cons, List.length_nil, Nat.reduceAdd, Nat.reduceSub, Array.replicate_succ, Array.replicate_zero, List.push_toArray, List.append_toArray, List.nil_append, List.cons_append]
 gi_wp2_with (refine in_load rfl rfl rfl hld ?_)
 gi_loopw [9] (fun i wr => ∃ k : Nat, k ≤ 48 ∧ i = .int .i64 k ∧ J (itS ls cs k).length wr) (fun i _ => 48 - (intOf i).toNat)
 case atStart => exact ⟨0, by omega, rfl, h0⟩
 case round =>
  obtain ⟨k, hk, rfl, hJs⟩ := hrel
  by_cases hlt : k < 48
  · have hlti : ((k : Int)) < 48 := by omega
    have w1 : IntKind.i64.wrap ((k : Int) + 1) = (k : Int) + 1 := by rw [IntKind.wrap_i64]; omega
    rcases hp k hlt with ⟨hl1, hc1⟩ | ⟨x, a, hl1, hc1⟩
    · have hgd : cs[k]?.getD undef = .pointer none := by rw [hc1]; rfl
      have hJn : J (itS ls cs (k + 1)).length wr := by rw [itS_succ, hl1]; simpa using hJs
      gi_wp2_with (refine in_index rfl rfl rfl rfl hlt hcs ?_; rw [hgd])
      refine ⟨fun f h => (nomatch h), ?_⟩
      gi_wp2
      go_roundw
      case rel => exact ⟨k + 1, by omega, by simp, hJn⟩
      case measure => simp [intOf]; omega
    · have hgd : cs[k]?.getD undef = .pointer (some a) := by rw [hc1]; rfl
      have hsu : itS ls cs (k + 1) = itS ls cs k ++ [#[.int .i64 (k : Int), .pointer (some a)]] := by rw [itS_succ, hl1, hgd]
      obtain ⟨tl, htl⟩ := itS_pre ls cs (k + 1) 48 (by omega)
      have hlen : (itS ls cs k).length < (itS ls cs 48).length := by rw [← htl, hsu]; simp
      have hget : (itS ls cs 48)[(itS ls cs k).length] = #[.int .i64 (k : Int), .pointer (some a)] := by
       have h3 : (itS ls cs 48)[(itS ls cs k).length]? = some #[.int .i64 (k : Int), .pointer (some a)] := by
        rw [← htl, hsu]; simp
       rw [List.getElem?_eq_getElem hlen] at h3
       exact Option.some.inj h3
      obtain ⟨fn, tmps, assign, body, hy, hR⟩ := hY _ wr hlen hJs
      rw [hget] at hy
      have hln : (itS ls cs k).length + 1 = (itS ls cs (k + 1)).length := by rw [hsu]; simp
      rw [hln] at hR
      gi_wp2_with (refine in_index rfl rfl rfl rfl hlt hcs ?_; rw [hgd])
      refine hR.mono ?_
      rintro e W3 (⟨rfl, hJ3⟩ | ⟨rfl, hJx3⟩)
      · gi_wp2
        go_roundw
        case rel => exact ⟨k + 1, by omega, by simp, hJ3⟩
        case measure => simp [intOf]; omega
      · gi_wp2
        refine bodyPost_ret (results_none rfl _ _ _) rfl ?_
        exact ⟨⟨_, rfl⟩, .inr ⟨_, hJx3⟩⟩
  · obtain rfl : k = 48 := by omega
    gi_wp2
    go_end0
    exact ⟨⟨_, rfl⟩, .inl hJs⟩
set_option maxHeartbeats 1000000 in
theorem all_in (n : Nat) (sd : Addr) (w : World) :
 CallsIn Fence.wide n Tryd.prog 51 #[.pointer (some sd)] w fun e w' => e = .returned (.func (.func 68) #[] #[.pointer (some ⟨w.heap.size, 0, none⟩)]) ∧ w' = w.alloc (.cells #[.pointer (some sd)] 25) := by
 refine callsIn_of_wp Tryd.func51 rfl trivial ?_ rfl
 simp only [Tryd.ntmps51, List.size_toArray, List.length_cons, List.length_nil, Nat.reduceAdd, Nat.reduceSub, Array.replicate_succ, Array.replicate_zero, List.push_toArray, List.append_toArray, List.nil_append, List.cons_append]
 gi_wp2
 go_ret
 exact ⟨rfl, rfl⟩
structure Sh (w : World) (ok : Nat → Prop) (x : Shelf) (sd : Addr) (cs : List Value) : Prop where
 lsL : x.2.1.length = 48
 csL : cs.length = 48
 okS : ok sd.block
 repS : RepL (Rep w ok (.op tslot)) x.2.1 cs
 cellS : ∀ (j : Nat) (u : Value), cs[j]? = some u → w.cell? (sd.add (1 + j)) = some u
 mapS : ∃ a, w.cell? (sd.add 49) = some (.pointer (some a)) ∧ RepP w ok tMap x.2.2.1 (.pointer (some a))
theorem rep_ops {w : World} {ok : Nat → Prop} : ∀ {l : List (Option slot)} {cs : List Value}, RepL (Rep w ok (.op tslot)) l cs → cs.length = l.length ∧ ∀ i, i < l.length → (l[i]? = some none ∧ cs[i]? = some (.pointer none)) ∨ ∃ x a, l[i]? = some (some x) ∧ cs[i]? = some (.pointer (some a)) ∧ ok a.block ∧ RepP w ok tslot x (.pointer (some a))
 | [], _, h => by rw [show _ = ([] : List Value) from h]; exact ⟨rfl, fun i hi => by simp at hi⟩
 | o :: l, cs, ⟨c1, c2, e, r1, r2⟩ => by
  obtain ⟨h1, h2⟩ := rep_ops r2
  cases o with
  | none =>
   have r1 : c1 = [.pointer none] := r1
   subst e; subst r1
   refine ⟨by simp [h1], fun i hi => ?_⟩
   cases i with
   | zero => exact .inl ⟨rfl, rfl⟩
   | succ i => simpa using h2 i (by simpa using hi)
  | some x =>
   obtain ⟨a, inner, e1, hk, hr, hc⟩ := r1
   subst e; subst e1
   refine ⟨by simp [h1], fun i hi => ?_⟩
   cases i with
   | zero => exact .inr ⟨x, a, rfl, rfl, hk, a, inner, rfl, hk, hr, hc⟩
   | succ i => simpa using h2 i (by simpa using hi)
theorem shelf_of {w : World} {ok : Nat → Prop} {x : Shelf} {v : Value} (h : RepP w ok tShelf x v) : ∃ sd cs, v = .pointer (some sd) ∧ Sh w ok x sd cs := by
 obtain ⟨sd, cells, e, hk, ⟨c1, c2, e1, ⟨ja, ji, ej, _⟩, ⟨c3, c4, e2, ⟨hl, hr⟩, ⟨c5, c6, e3, ⟨ma, mi, em, hmk, hmr, hmc⟩, _⟩⟩⟩, hc⟩ := h
 subst e1; subst ej; subst e2; subst e3; subst em
 obtain ⟨hlen, _⟩ := rep_ops hr
 have hl : List.length (x.2.1) = 48 := hl
 refine ⟨sd, c3, e, hl, by rw [hlen, hl], hk, hr, fun j u hu => hc (1 + j) u ?_, ma, hc 49 _ ?_, ma, mi, rfl, hmk, hmr, hmc⟩
 · rw [Nat.add_comm]
   have hj := (List.getElem?_eq_some_iff.1 hu).1
   simp [List.getElem?_append_left hj, hu]
 · simp [List.getElem?_append_right, hlen, hl]
theorem all_it {w : World} {ok : Nat → Prop} {x : Shelf} {sd : Addr} {cs : List Value} (h : Sh w ok x sd cs) (hok : ∀ b, ok b → b < w.heap.size) (W : World) (hW : Below w.heap.size w W) (Bs : Nat) (hB : W.heap[Bs]? = some (.cells #[.pointer (some sd)] 25 (0, 0))) :
 ItG Tryd.prog 68 #[.pointer (some ⟨Bs, 0, none⟩)] (itS x.2.1 cs 48) (fun b => b = Bs ∨ ok b) W := by
 intro n l J Jx W1 hs hk hJ hJx hY h0
 have h1 := (hk Bs (.inl rfl)).trans hB
 have hld : (loadVar 70 (sd.add 1)).run Tryd.prog W1 = .ok (.agg cs.toArray) W1 := by
  have hT : TyP Tryd.prog (.arr 48 (.op tslot)) 70 := baseH.ty 70 _ (by kernel_rfl)
  have hw : ∀ b, ok b → W1.heap[b]? = w.heap[b]? := fun b hb => (hk b (.inr hb)).trans (hW.block b (hok b hb))
  have hagg : (isAgg 70).run Tryd.prog W1 = .ok true W1 := by simp [isAgg, underlying, Tryd.underlying70]
  have hl := run_loadCells_list (P := Tryd.prog) W1 (sd.add 1) cs (fun j u hu => by
   rw [add_add]
   refine (World.cell?_of_block (w := w) ?_).trans (h.cellS j u hu)
   rw [add_block]
   exact hw _ h.okS)
  rw [h.csL] at hl
  have hsz : (sizeOf 70).run Tryd.prog W1 = .ok 48 W1 := sizeOf_run hT
  simp only [loadVar, Sem.run_bind, hagg, Result.andThen_ok, if_true, hsz, hl, Sem.run_pure]
 obtain ⟨_, hp⟩ := rep_ops h.repS
 refine (all1_in n l Bs sd x.2.1 cs h.lsL h.csL (fun i hi => (hp i (by rw [h.lsL]; exact hi)).imp id fun ⟨x, a, h1, h2, _⟩ => ⟨x, a, h1, h2⟩) J Jx W1 (by simp [World.cell?, h1]) hld (fun k A hk hJk => ?_) h0).mono ?_
 · obtain ⟨fn, tmps, assign, body, hy, hR⟩ := hY k A hk hJk
   refine ⟨fn, tmps, assign, body, hy, hR.mono ?_⟩
   rintro e B (⟨he, hj, hb⟩ | ⟨he, hj⟩)
   · exact .inl ⟨he, hj⟩
   · exact .inr ⟨he, hj⟩
 · rintro e W' ⟨he, hj⟩
   exact ⟨he, hj⟩
end Go.Iw
