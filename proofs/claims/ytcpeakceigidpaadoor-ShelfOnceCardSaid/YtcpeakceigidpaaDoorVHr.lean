/- A region of Shelf.Keys, in any order. -/
import Derived.Test.YtcpeakceigidpaaDoorVHl
set_option linter.all false
namespace Go.Iw
open Go.Iv Go.Proofs Go.RowKit Go.Shelf
attribute [local go_sem] Oper.semAt_some
def opsAt (k : Nat) : Code → Option (Array Oper)
 | .region i ops _ => bif Nat.beq i k then some ops else none
 | .seq x y => (opsAt k x).or (opsAt k y)
 | .cond _ x y => (opsAt k x).or (opsAt k y)
 | .block _ c => opsAt k c
 | .loop c => opsAt k c
 | .rangeFunc _ _ x y => (opsAt k x).or (opsAt k y)
 | _ => none
noncomputable def kops : Array Oper := ((Tryd.f23.body.bind (opsAt 6)).getD #[])
section
variable {F : Fence} {n : Nat} {P : Program} {w : World} {o : Oper} {a : Go.Act} {K : Go.Act → World → Prop} {Q : Exit → Go.Act → World → Prop}
theorem o_ld {T : TypeId} {x : Operand} (hop : o.op = .load T x) {ad : Addr} (hx : a.eval x = .pointer (some ad)) {v : Value} (hl : (loadVar T ad).run P w = .ok v w) (hK : K (a.put o.dst v) w) : Oper.wpIn F n P o a w K Q := by
 unfold Oper.wpIn
 refine ⟨by simp [Oper.about, hop, Sem.run_pure], ?_⟩
 rw [Oper.semAt_plain F _ _ (by rw [hop]; intro c hc'; cases hc')]
 simp [execOp, hop, hx, Instr.loadAt, Instr.sureAddr, hl, Result.andThen]
 exact hK
theorem o_mv {x : Operand} (hop : o.op = .move x) {v : Value} (hx : a.eval x = v) (hK : K (a.put o.dst v) w) : Oper.wpIn F n P o a w K Q := by
 unfold Oper.wpIn
 refine ⟨by simp [Oper.about, hop, Sem.run_pure], ?_⟩
 rw [Oper.semAt_plain F _ _ (by rw [hop]; intro c hc'; cases hc')]
 simp [execOp, hop, hx, Result.andThen]
 exact hK
theorem o_nc {x : Operand} (hop : o.op = .nilCheck x) {ad : Addr} (hx : a.eval x = .pointer (some ad)) (hK : K (a.put o.dst (.pointer (some ad))) w) : Oper.wpIn F n P o a w K Q := by
 unfold Oper.wpIn
 refine ⟨by simp [Oper.about, hop, Sem.run_pure], ?_⟩
 rw [Oper.semAt_plain F _ _ (by rw [hop]; intro c hc'; cases hc')]
 simp [execOp, hop, hx, Instr.sureAddr, Result.andThen]
 exact hK
end
section
variable {F : Fence} {n : Nat} {w : World} {o : Oper} {a : Go.Act} {K : Go.Act → World → Prop} {Q : Exit → Go.Act → World → Prop}
theorem o_fa {x : Operand} (hop : o.op = .fieldAddr 76 x 0) {ad : Addr} (hx : a.eval x = .pointer (some ad)) (hK : K (a.put o.dst (.pointer (some (ad.add 0)))) w) : Oper.wpIn F n Tryd.prog o a w K Q := by
 obtain ⟨fs, fl, hu, hfl, hoff, htf, hsz⟩ := fld_struct (base_ty 76 tslot (by kernel_rfl)) (f := 0) (o := 0) (ft := .arr 32 (.int .u8)) rfl
 unfold Oper.wpIn
 refine ⟨by simp [Oper.about, hop, Sem.run_pure], ?_⟩
 rw [Oper.semAt_plain F _ _ (by rw [hop]; intro c hc'; cases hc')]
 have hrun : (execOp a.eval o).run Tryd.prog w = .ok (.value (.pointer (some (ad.add 0)))) w := by
  simp [execOp, hop, hx, Instr.fieldAt, Instr.sureAddr, run_underlying hu, hfl, hoff, fieldPlace, sizeOf_run htf, Ty.size]
 rw [hrun]
 exact hK
theorem o_ap {t : TypeId} {s x : Operand} (hop : o.op = Op.call { callee := Callee.builtin Builtin.append, args := #[s, x], argTypes := #[t, t] })
 (base : Nat) (e : TypeId) (i : TypeInfo) (z : Value) (size bytes : Nat) (h1 : Tryd.prog.underlying t = some (.slice e)) (h2 : Tryd.prog.info? e = some i) (h3 : i.zero = some z) (h4 : i.size = size) (h5 : i.bytes = bytes) (h6 : z.cells.size = size) (h7 : 0 < size)
 (v : Value) (k : Nat) (xs : List Value) (hs : a.eval s = v) (hown : w.ownsRow base e size v k xs) (ad : Addr) (m c : Nat) (news : List Value) (hx : a.eval x = .slice (some ad) m c) (hn : news.length = m * size)
 (hc : ∀ j u, news[j]? = some u → w.cell? (ad.add j) = some u) (h1c : ∀ u ∈ news, u.oneCell' = true) (b1 : k + m ≤ maxLen) (b2 : (k + m) * bytes ≤ 140737488355328) (b3 : base ≤ w.heap.size)
 (hK : ∀ v' w', w'.ownsRow base e size v' (k + m) (xs ++ news) → w.grownBy w' v.ownBlock → K (a.put o.dst v') w') : Oper.wpIn F n Tryd.prog o a w K Q := by
 obtain ⟨v', w', hrun, r1, r2, r3⟩ := run_append_own (P := Tryd.prog) w base t o.type e i z size bytes h1 h2 h3 h4 h5 h6 h7 v k xs hown ad m c news hn hc h1c b1 b2 b3
 unfold Oper.wpIn
 refine ⟨by simp [Oper.about, hop, resolve, Target.leads, Sem.run_pure], ?_⟩
 rw [Oper.semAt_plain F _ _ (by rw [hop]; intro c hc'; cases hc')]
 simp [execOp, hop, resolve, invoke, builtin, hs, hx, hrun, Result.andThen]
 exact hK v' w' r1 r2
theorem o_st {T : TypeId} {x y : Operand} (hop : o.op = .store T x y) {ad : Addr} (hx : a.eval x = .pointer (some ad)) {v : Value} (hy : a.eval y = v) {w' : World} (hl : (storeVar T ad v).run Tryd.prog w = .ok () w') (hK : K (a.put o.dst undef) w') : Oper.wpIn F n Tryd.prog o a w K Q := by
 unfold Oper.wpIn
 refine ⟨by simp [Oper.about, hop, Sem.run_pure], ?_⟩
 rw [Oper.semAt_plain F _ _ (by rw [hop]; intro c hc'; cases hc')]
 simp [execOp, hop, hx, hy, Instr.storeAt, Instr.sureAddr, hl, Result.andThen]
 exact hK
theorem build_key (w : World) (ks : List Value) (hk : ks.length = 32) : (Instr.buildSlice 51 1 #[(0, .agg ks.toArray)]).run Tryd.prog w = .ok (.slice (some ⟨w.heap.size, 0, none⟩) 1 1) (w.alloc (.cells ks.toArray 29)) := by
 have h2 : (sizeOf 29).run Tryd.prog w = .ok 32 w := sizeOf_run (base_ty 29 (.arr 32 (.int .u8)) (by kernel_rfl))
 have hnn : ¬ (1 * 32 > 2 ^ 24) := by omega
 have h0 : ¬ (1 * 32 = 0) := by omega
 simp only [Instr.buildSlice, Sem.run_bind, run_underlying Tryd.underlying51, Result.andThen_ok, h2, if_neg hnn, Sem.run_pure, if_neg h0, Tryd.zeroValue29]
 have e : ∀ c : Array Value, c.size = 32 → Instr.fill (fun i => some (i * 32, 32)) c [(0, Value.agg ks.toArray)] = some ks.toArray := by
  intro c hc
  obtain ⟨cells', hc', he⟩ := fill_one (v := .agg ks.toArray) (rest := []) (cells := c) (place := fun i => some (i * 32, 32)) (i := 0) (pre := []) (d := c.toList) (post := []) rfl (by simp) rfl (by simpa [Value.cells, hk] using hc) (by simp [Value.cells, hk])
  rw [he]
  simp only [Instr.fill]
  exact congrArg some (Array.toList_inj.1 (by rw [hc']; simp [Value.cells]))
 rw [e _ (by simp)]
 simp [newRow]
theorem o_bs {y : Operand} (hop : o.op = .buildSlice 51 1 #[(0, y)]) {ks : List Value} (hk : ks.length = 32) (hy : a.eval y = .agg ks.toArray) (hK : K (a.put o.dst (.slice (some ⟨w.heap.size, 0, none⟩) 1 1)) (w.alloc (.cells ks.toArray 29))) : Oper.wpIn F n Tryd.prog o a w K Q := by
 unfold Oper.wpIn
 refine ⟨by simp [Oper.about, hop, Sem.run_pure], ?_⟩
 rw [Oper.semAt_plain F _ _ (by rw [hop]; intro c hc'; cases hc')]
 simp [execOp, hop, hy, build_key w ks hk, Result.andThen]
 exact hK
end
set_option maxRecDepth 100000 in
set_option maxHeartbeats 4000000 in
theorem keys_region {F : Fence} {n : Nat} {Q : Exit → Go.Act → World → Prop} (w : World) (b0 base : Nat) (pa : Addr) (t0 t1 t2 t4 t6 t7 t8 t9 t10 t11 : Value) (ks xs : List Value) (hk : ks.length = 32) (h1k : ∀ u ∈ ks, u.oneCell' = true) (V : Value) (k : Nat)
 (hcell : Boxed w b0 51 V) (hkey : ∀ (j : Nat) (u : Value), ks[j]? = some u → w.cell? (pa.add j) = some u) (hrow : w.ownsRow base 29 32 V k xs) (hk48 : k ≤ 1000) (hbase : base ≤ w.heap.size) (hB : base ≤ b0)
 (hfin : ∀ (v' : Value) (w3 : World), w3.ownsRow base 29 32 v' (k + 1) (xs ++ ks) → ((w.drew.alloc (.cells ks.toArray 29)).grownBy w3 V.ownBlock) → Q .normal { tmps := #[t0, t1, t2, .pointer (some ⟨b0, 0, none⟩), t4, .pointer (some pa), t6, t7, t8, t9, t10, t11, V, .pointer (some pa), .pointer (some pa), .pointer (some (pa.add 0)), .agg ks.toArray, .slice (some ⟨w.heap.size, 0, none⟩) 1 1, v', undef, undef, undef], defers := [] } (w3.setCell ⟨b0, 0, none⟩ v')) :
 (Code.region 6 kops true).wpIn F n Tryd.prog Q { tmps := #[t0, t1, t2, .pointer (some ⟨b0, 0, none⟩), t4, .pointer (some pa), t6, t7, t8, t9, t10, t11, undef, undef, undef, undef, undef, undef, undef, undef, undef, undef], defers := [] } w := by
 obtain ⟨i0, hi, z0, hz0, hz3, hz1, hz2⟩ : ∃ i, Tryd.prog.info? 29 = some i ∧ ∃ z, i.zero = some z ∧ z.cells.size = 32 ∧ i.size = 32 ∧ i.bytes = 32 := ⟨Tryd.t29, by kernel_rfl, _, rfl, rfl, rfl, rfl⟩
 have a51 : ∀ W, (isAgg 51).run Tryd.prog W = .ok false W := fun W => by simp [isAgg, underlying, Tryd.underlying51]
 have hld : (loadVar 29 (pa.add 0)).run Tryd.prog w.drew = .ok (.agg ks.toArray) w.drew := by
  have hagg : (isAgg 29).run Tryd.prog w.drew = .ok true w.drew := by simp [isAgg, underlying, Tryd.underlying29]
  have hl := run_loadCells_list (P := Tryd.prog) w.drew (pa.add 0) ks (fun j u hu => by rw [show pa.add 0 = pa from by simp [Addr.add]]; exact hkey j u hu)
  rw [hk] at hl
  have hsz : (sizeOf 29).run Tryd.prog w.drew = .ok 32 w.drew := sizeOf_run (base_ty 29 (.arr 32 (.int .u8)) (by kernel_rfl))
  simp only [loadVar, Sem.run_bind, hagg, Result.andThen_ok, if_true, hsz, hl, Sem.run_pure]
 have hl0 : (loadVar 51 ⟨b0, 0, none⟩).run Tryd.prog w.drew = .ok V w.drew := load_plain (a51 _) hcell.cell
 have hcell2 : Boxed (w.drew.alloc (.cells ks.toArray 29)) b0 51 V := Boxed.alloc (W := w.drew) hcell _
 have hl1 : (loadVar 51 ⟨b0, 0, none⟩).run Tryd.prog (w.drew.alloc (.cells ks.toArray 29)) = .ok V (w.drew.alloc (.cells ks.toArray 29)) := load_plain (a51 _) hcell2.cell
 have s5t : wpAnyIn F n Tryd.prog .any kops Q 2 #[true, true, true, true, true, true, false, false] { tmps := #[t0, t1, t2, .pointer (some ⟨b0, 0, none⟩), t4, .pointer (some pa), t6, t7, t8, t9, t10, t11, V, .pointer (some pa), .pointer (some pa), .pointer (some (pa.add 0)), .agg ks.toArray, .slice (some ⟨w.heap.size, 0, none⟩) 1 1, undef, undef, undef, undef], defers := [] } (w.drew.alloc (.cells ks.toArray 29)) := by
  refine wpAnyIn_ready (rs := [6]) (by kernel_rfl) (by simp) (AllReadyIn.cons (o := kops[6]) rfl (fun K' hK' => ?_) AllReadyIn.nil)
  rw [if_pos (by kernel_rfl)]
  refine o_ap (t := 51) (s := .tmp 12) (x := .tmp 17) rfl base 29 i0 z0 32 32 Tryd.underlying51 hi hz0 hz1 hz2 hz3 (by decide) V k xs rfl (World.ownsRow.kept (w := w.drew) hrow (World.grownBy_alloc _ _ none) (by simp; cases V.ownBlock <;> simp)) ⟨w.heap.size, 0, none⟩ 1 1 ks rfl (by simp [hk]) (new_cells w.drew ks 29) h1k (by simp only [maxLen]; omega) (by omega) (by simp; omega) ?_
  intro v' w3 hown hgrow
  have hb3 : Boxed w3 b0 51 V := hcell2.kept hgrow (Boxed.not_row (W := w.drew) hcell (by decide) hrow)
  refine hK' _ _ (wpAnyIn_ready (rs := [7]) (by kernel_rfl) (by simp) (AllReadyIn.cons (o := kops[7]) rfl (fun K2 hK2 => ?_) AllReadyIn.nil))
  rw [if_pos (by kernel_rfl)]
  obtain ⟨g', cap', rfl⟩ := ownsRow_succ hown
  refine o_st (T := 51) (x := .tmp 3) (y := .tmp 18) rfl (ad := ⟨b0, 0, none⟩) rfl (v := .slice (some ⟨g', 0, none⟩) (k + 1) cap') rfl (w' := w3.setCell ⟨b0, 0, none⟩ (.slice (some ⟨g', 0, none⟩) (k + 1) cap')) (by
   have h1 := run_store Tryd.prog w3 ⟨b0, 0, none⟩ (.slice (some ⟨g', 0, none⟩) (k + 1) cap') .plain rfl
   simp [storeVar, Sem.run_bind, a51, Value.cells, storeCells, Addr.add, h1, stored, hb3.cell, hb3.frozen]) ?_
  exact hK2 _ _ (wpAnyIn_done (by kernel_rfl) (hfin _ w3 hown hgrow) _)
 have s5f : wpAnyIn F n Tryd.prog .any kops Q 3 #[false, true, true, true, true, true, false, false] { tmps := #[t0, t1, t2, .pointer (some ⟨b0, 0, none⟩), t4, .pointer (some pa), t6, t7, t8, t9, t10, t11, undef, .pointer (some pa), .pointer (some pa), .pointer (some (pa.add 0)), .agg ks.toArray, .slice (some ⟨w.heap.size, 0, none⟩) 1 1, undef, undef, undef, undef], defers := [] } (w.drew.alloc (.cells ks.toArray 29)) := by
  refine wpAnyIn_ready (rs := [0]) (by kernel_rfl) (by simp) ?_
  refine AllReadyIn.cons (o := kops[0]) rfl (fun K' hK' => ?_) ?_
  · rw [if_pos (by kernel_rfl)]
    exact o_ld (T := 51) rfl rfl hl1 (hK' _ _ s5t)
  exact AllReadyIn.nil
 have s4t : wpAnyIn F n Tryd.prog .any kops Q 3 #[true, true, true, true, true, false, false, false] { tmps := #[t0, t1, t2, .pointer (some ⟨b0, 0, none⟩), t4, .pointer (some pa), t6, t7, t8, t9, t10, t11, V, .pointer (some pa), .pointer (some pa), .pointer (some (pa.add 0)), .agg ks.toArray, undef, undef, undef, undef, undef], defers := [] } w.drew := by
  refine wpAnyIn_ready (rs := [5]) (by kernel_rfl) (by simp) ?_
  refine AllReadyIn.cons (o := kops[5]) rfl (fun K' hK' => ?_) ?_
  · rw [if_pos (by kernel_rfl)]
    exact o_bs rfl hk rfl (hK' _ _ s5t)
  exact AllReadyIn.nil
 have s4f : wpAnyIn F n Tryd.prog .any kops Q 4 #[false, true, true, true, true, false, false, false] { tmps := #[t0, t1, t2, .pointer (some ⟨b0, 0, none⟩), t4, .pointer (some pa), t6, t7, t8, t9, t10, t11, undef, .pointer (some pa), .pointer (some pa), .pointer (some (pa.add 0)), .agg ks.toArray, undef, undef, undef, undef, undef], defers := [] } w.drew := by
  refine wpAnyIn_ready (rs := [0, 5]) (by kernel_rfl) (by simp) ?_
  refine AllReadyIn.cons (o := kops[0]) rfl (fun K' hK' => ?_) ?_
  · rw [if_pos (by kernel_rfl)]
    exact o_ld (T := 51) rfl rfl hl0 (hK' _ _ s4t)
  refine AllReadyIn.cons (o := kops[5]) rfl (fun K' hK' => ?_) ?_
  · rw [if_pos (by kernel_rfl)]
    exact o_bs rfl hk rfl (hK' _ _ s5f)
  exact AllReadyIn.nil
 have s3t : wpAnyIn F n Tryd.prog .any kops Q 4 #[true, true, true, true, false, false, false, false] { tmps := #[t0, t1, t2, .pointer (some ⟨b0, 0, none⟩), t4, .pointer (some pa), t6, t7, t8, t9, t10, t11, V, .pointer (some pa), .pointer (some pa), .pointer (some (pa.add 0)), undef, undef, undef, undef, undef, undef], defers := [] } w.drew := by
  refine wpAnyIn_ready (rs := [4]) (by kernel_rfl) (by simp) ?_
  refine AllReadyIn.cons (o := kops[4]) rfl (fun K' hK' => ?_) ?_
  · rw [if_pos (by kernel_rfl)]
    exact o_ld rfl rfl hld (hK' _ _ s4t)
  exact AllReadyIn.nil
 have s3f : wpAnyIn F n Tryd.prog .any kops Q 5 #[false, true, true, true, false, false, false, false] { tmps := #[t0, t1, t2, .pointer (some ⟨b0, 0, none⟩), t4, .pointer (some pa), t6, t7, t8, t9, t10, t11, undef, .pointer (some pa), .pointer (some pa), .pointer (some (pa.add 0)), undef, undef, undef, undef, undef, undef], defers := [] } w.drew := by
  refine wpAnyIn_ready (rs := [0, 4]) (by kernel_rfl) (by simp) ?_
  refine AllReadyIn.cons (o := kops[0]) rfl (fun K' hK' => ?_) ?_
  · rw [if_pos (by kernel_rfl)]
    exact o_ld (T := 51) rfl rfl hl0 (hK' _ _ s3t)
  refine AllReadyIn.cons (o := kops[4]) rfl (fun K' hK' => ?_) ?_
  · rw [if_pos (by kernel_rfl)]
    exact o_ld rfl rfl hld (hK' _ _ s4f)
  exact AllReadyIn.nil
 have s2t : wpAnyIn F n Tryd.prog .any kops Q 5 #[true, true, true, false, false, false, false, false] { tmps := #[t0, t1, t2, .pointer (some ⟨b0, 0, none⟩), t4, .pointer (some pa), t6, t7, t8, t9, t10, t11, V, .pointer (some pa), .pointer (some pa), undef, undef, undef, undef, undef, undef, undef], defers := [] } w.drew := by
  refine wpAnyIn_ready (rs := [3]) (by kernel_rfl) (by simp) ?_
  refine AllReadyIn.cons (o := kops[3]) rfl (fun K' hK' => ?_) ?_
  · rw [if_pos (by kernel_rfl)]
    exact o_fa rfl rfl (hK' _ _ s3t)
  exact AllReadyIn.nil
 have s2f : wpAnyIn F n Tryd.prog .any kops Q 6 #[false, true, true, false, false, false, false, false] { tmps := #[t0, t1, t2, .pointer (some ⟨b0, 0, none⟩), t4, .pointer (some pa), t6, t7, t8, t9, t10, t11, undef, .pointer (some pa), .pointer (some pa), undef, undef, undef, undef, undef, undef, undef], defers := [] } w.drew := by
  refine wpAnyIn_ready (rs := [0, 3]) (by kernel_rfl) (by simp) ?_
  refine AllReadyIn.cons (o := kops[0]) rfl (fun K' hK' => ?_) ?_
  · rw [if_pos (by kernel_rfl)]
    exact o_ld (T := 51) rfl rfl hl0 (hK' _ _ s2t)
  refine AllReadyIn.cons (o := kops[3]) rfl (fun K' hK' => ?_) ?_
  · rw [if_pos (by kernel_rfl)]
    exact o_fa rfl rfl (hK' _ _ s3f)
  exact AllReadyIn.nil
 have s1t : wpAnyIn F n Tryd.prog .any kops Q 6 #[true, true, false, false, false, false, false, false] { tmps := #[t0, t1, t2, .pointer (some ⟨b0, 0, none⟩), t4, .pointer (some pa), t6, t7, t8, t9, t10, t11, V, .pointer (some pa), undef, undef, undef, undef, undef, undef, undef, undef], defers := [] } w.drew := by
  refine wpAnyIn_ready (rs := [2]) (by kernel_rfl) (by simp) ?_
  refine AllReadyIn.cons (o := kops[2]) rfl (fun K' hK' => ?_) ?_
  · rw [if_pos (by kernel_rfl)]
    exact o_nc rfl rfl (hK' _ _ s2t)
  exact AllReadyIn.nil
 have s1f : wpAnyIn F n Tryd.prog .any kops Q 7 #[false, true, false, false, false, false, false, false] { tmps := #[t0, t1, t2, .pointer (some ⟨b0, 0, none⟩), t4, .pointer (some pa), t6, t7, t8, t9, t10, t11, undef, .pointer (some pa), undef, undef, undef, undef, undef, undef, undef, undef], defers := [] } w.drew := by
  refine wpAnyIn_ready (rs := [0, 2]) (by kernel_rfl) (by simp) ?_
  refine AllReadyIn.cons (o := kops[0]) rfl (fun K' hK' => ?_) ?_
  · rw [if_pos (by kernel_rfl)]
    exact o_ld (T := 51) rfl rfl hl0 (hK' _ _ s1t)
  refine AllReadyIn.cons (o := kops[2]) rfl (fun K' hK' => ?_) ?_
  · rw [if_pos (by kernel_rfl)]
    exact o_nc rfl rfl (hK' _ _ s2f)
  exact AllReadyIn.nil
 have s0t : wpAnyIn F n Tryd.prog .any kops Q 7 #[true, false, false, false, false, false, false, false] { tmps := #[t0, t1, t2, .pointer (some ⟨b0, 0, none⟩), t4, .pointer (some pa), t6, t7, t8, t9, t10, t11, V, undef, undef, undef, undef, undef, undef, undef, undef, undef], defers := [] } w.drew := by
  refine wpAnyIn_ready (rs := [1]) (by kernel_rfl) (by simp) ?_
  refine AllReadyIn.cons (o := kops[1]) rfl (fun K' hK' => ?_) ?_
  · rw [if_pos (by kernel_rfl)]
    exact o_mv rfl rfl (hK' _ _ s1t)
  exact AllReadyIn.nil
 have s0f : wpAnyIn F n Tryd.prog .any kops Q 8 #[false, false, false, false, false, false, false, false] { tmps := #[t0, t1, t2, .pointer (some ⟨b0, 0, none⟩), t4, .pointer (some pa), t6, t7, t8, t9, t10, t11, undef, undef, undef, undef, undef, undef, undef, undef, undef, undef], defers := [] } w.drew := by
  refine wpAnyIn_ready (rs := [0, 1]) (by kernel_rfl) (by simp) ?_
  refine AllReadyIn.cons (o := kops[0]) rfl (fun K' hK' => ?_) ?_
  · rw [if_pos (by kernel_rfl)]
    exact o_ld (T := 51) rfl rfl hl0 (hK' _ _ s0t)
  refine AllReadyIn.cons (o := kops[1]) rfl (fun K' hK' => ?_) ?_
  · rw [if_pos (by kernel_rfl)]
    exact o_mv rfl rfl (hK' _ _ s1f)
  exact AllReadyIn.nil
 exact wpIn_region_any (by kernel_rfl) s0f
end Go.Iw
