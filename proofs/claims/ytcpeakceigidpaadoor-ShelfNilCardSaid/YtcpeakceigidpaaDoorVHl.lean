/- Contracts proved by hand: Shelf.Left. -/
import Derived.Test.YtcpeakceigidpaaDoorVHa
import Derived.Test.YtcpeakceigidpaaDoorKvX
import Derived.Sort.QuietIn
import Derived.Sort.CutIn
set_option linter.all false
namespace Go.Iw
open Go.Iv Go.Proofs Go.RowKit Go.Shelf
attribute [local go_sem] Oper.semAt_some
theorem itS_len (l : List (Option slot)) (cs : List Value) : ∀ k, k ≤ l.length → (itS l cs k).length = ((l.take k).filterMap id).length := by
 intro k
 induction k with
 | zero => intro _; rfl
 | succ k ih =>
  intro hk
  have hk' : k < l.length := by omega
  rw [itS_succ, List.take_succ_eq_append_getElem hk', List.filterMap_append, List.length_append, List.length_append, ih (by omega), List.getElem?_eq_getElem hk']
  cases l[k] <;> simp
theorem itS_all {l : List (Option slot)} {cs : List Value} (h : l.length = 48) : (itS l cs 48).length = cntS l := by
 rw [itS_len l cs 48 (by omega), ← h, List.take_length]; rfl
theorem cntS_le {l : List (Option slot)} (h : l.length = 48) : cntS l ≤ 48 := by
 rw [← h]; exact List.length_filterMap_le _ _
theorem itS_mem {l : List (Option slot)} {cs : List Value} {k : Nat} {a : Array Value} (h : a ∈ itS l cs k) : ∃ u v, a = #[u, v] := by
 unfold itS at h
 obtain ⟨i, _, hi⟩ := List.mem_filterMap.1 h
 split at hi
 · cases hi; exact ⟨_, _, rfl⟩
 · cases hi
structure LfI (w : World) (sd : Addr) (k : Nat) (W : World) : Prop where
 n : Boxed W w.heap.size 3 (.int .i64 (48 - (k : Int)))
 b : Boxed W (w.heap.size + 1) 25 (.pointer (some sd))
 low : Below w.heap.size w W
theorem LfI.put {w : World} {sd : Addr} {k : Nat} {W : World} {o : Obj} {l : Nat} (h : LfI w sd k W) (hl : ∃ r, W.heap[l]? = some (.loop r)) (hn : w.heap.size ≤ l) : LfI w sd k (W.putObj l o) := by
 obtain ⟨r, hl⟩ := hl
 obtain ⟨h1, h2, h4⟩ := h
 exact ⟨Boxed_putObj h1 hl, Boxed_putObj h2 hl, h4.trans ⟨rfl, rfl, rfl, by simp [World.putObj], fun k hk => World.putObj_heap_other (by omega)⟩⟩
theorem LfI.grow {w : World} {sd : Addr} {k : Nat} {W W' : World} (h : LfI w sd k W) (hb : Below W.heap.size W W') : LfI w sd k W' :=
 ⟨Boxed_below h.n hb, Boxed_below h.b hb, h.low.trans (hb.mono h.low.size)⟩
theorem freeN_succ {l : List Bool} {k : Nat} {b : Bool} (h : l[k]? = some b) : ((l.take (k + 1)).filter (!·)).length = ((l.take k).filter (!·)).length + (if b then 0 else 1) := by
 obtain ⟨hk, rfl⟩ := List.getElem?_eq_some_iff.1 h
 rw [List.take_succ_eq_append_getElem hk, List.filter_append, List.length_append]
 cases l[k] <;> simp
set_option maxRecDepth 100000 in
set_option maxHeartbeats 2000000 in
theorem mapLeft_in (n : Nat) (ma : Addr) (A : Option Addr) (cap : Nat) (us : List Bool) (hN : us.length ≤ 1000000000) (w : World) (hc : w.cell? ma = some (.slice A us.length cap))
 (hu : us = [] ∨ ∃ ad, A = some ad ∧ ∀ (i : Nat) (b : Bool), us[i]? = some b → w.cell? (ad.add i) = some (.bool b)) :
 CallsIn Fence.wide n Tryd.prog 52 #[.pointer (some ma)] w fun e w' => e = .returned (.int .i64 ((us.filter (!·)).length : Int)) ∧ w' = w := by
 refine callsIn_of_wp Tryd.func52 rfl trivial ?_ rfl
 simp only [Tryd.ntmps52, List.size_toArray, List.length_cons, List.length_nil, Nat.reduceAdd, Nat.reduceSub, Array.replicate_succ, Array.replicate_zero, List.push_toArray, List.append_toArray, List.nil_append, List.cons_append]
 gi_wp2
 gi_loopw [3, 13] (fun c i wr => ∃ k : Nat, k ≤ us.length ∧ i = .int .i64 k ∧ c = .int .i64 (((us.take k).filter (!·)).length : Int) ∧ wr = w) (fun _ i _ => us.length - (intOf i).toNat)
 case atStart => exact ⟨0, by omega, rfl, by simp, rfl⟩
 case round =>
  obtain ⟨k, hk, rfl, rfl, rfl⟩ := hrel
  by_cases hlt : k < us.length
  · have hlti : ((k : Int)) < (us.length : Int) := by omega
    have w1 : IntKind.i64.wrap ((k : Int) + 1) = (k : Int) + 1 := by rw [IntKind.wrap_i64]; omega
    have hle : ((us.take k).filter (!·)).length ≤ k := by
     have := List.length_filter_le (!·) (us.take k)
     rw [List.length_take] at this
     omega
    have hcnt := @freeN_succ us k us[k] (List.getElem?_eq_getElem hlt)
    generalize ((us.take k).filter (!·)).length = c at hcnt hle ⊢
    have w2 : IntKind.i64.wrap ((c : Int) + 1) = (c : Int) + 1 := by rw [IntKind.wrap_i64]; omega
    obtain ⟨ad, rfl, hcell⟩ : ∃ ad, A = some ad ∧ ∀ (i : Nat) (b : Bool), us[i]? = some b → wr.cell? (ad.add i) = some (.bool b) := by
     rcases hu with h | h
     · rw [h] at hlt; simp at hlt
     · exact h
    have hcx : wr.cell? (ad.add (k * 1)) = some (.bool us[k]) := by rw [Nat.mul_one]; exact hcell k _ (List.getElem?_eq_getElem hlt)
    have hcx' := hcell k _ (List.getElem?_eq_getElem hlt)
    cases hb : us[k] with
    | true =>
     rw [hb] at hcx hcx' hcnt
     gi_wp2
     go_roundw
     case rel => exact ⟨k + 1, by omega, by simp, by rw [hcnt]; simp, trivial⟩
     case measure => simp [intOf]; omega
    | false =>
     rw [hb] at hcx hcx' hcnt
     gi_wp2
     go_roundw
     case rel => exact ⟨k + 1, by omega, by simp, by rw [hcnt]; simp, trivial⟩
     case measure => simp [intOf]; omega
  · obtain rfl : k = us.length := by omega
    rw [List.take_length]
    gi_wp2
    go_ret
    exact ⟨rfl, rfl⟩
set_option maxRecDepth 100000 in
set_option maxHeartbeats 4000000 in
theorem left_in (x : Shelf) (w : World) (ok : Nat → Prop) (hok : ∀ b, ok b → b < w.heap.size) (sd : Addr) (cs : List Value) (h : Sh w ok x sd cs) (ma : Addr) (hma : w.cell? (sd.add 49) = some (.pointer (some ma))) (r : Int)
 (hcall : ∀ W, Below w.heap.size w W → CallsIn Fence.wide 2 Tryd.prog 52 #[.pointer (some ma)] W fun e W' => e = .returned (.int .i64 r) ∧ W' = W) :
 CallsIn Fence.wide 3 Tryd.prog 22 #[.pointer (some sd)] w fun e W' => e = .returned (.tuple #[.int .i64 (48 - (cntS x.2.1 : Int)), .int .i64 r]) ∧ Below w.heap.size w W' := by
 have hf51 : Fence.wide.fn 51 := trivial
 have hf52 : Fence.wide.fn 52 := trivial
 refine callsIn_of_wp_marks Tryd.func22 rfl trivial ?_ rfl
 simp only [Tryd.ntmps22, List.size_toArray, List.length_cons, List.length_nil, Nat.reduceAdd, Nat.reduceSub, Array.replicate_succ, Array.replicate_zero, List.push_toArray, List.append_toArray, List.nil_append, List.cons_append]
 gi_wp2_with (gi_at_call 51; refine (all_in _ _ _).mono ?_; rintro e w' ⟨rfl, rfl⟩)
 obtain ⟨w4, hw4⟩ : ∃ w4, ((w.alloc (.cells #[.int .i64 48] 3)).alloc (.cells #[.pointer (some sd)] 25)) = w4 := ⟨_, rfl⟩
 have hs4 : w4.heap.size = w.heap.size + 2 := by rw [← hw4]; simp
 have k0 : Boxed w4 w.heap.size 3 (.int .i64 48) := by rw [← hw4]; exact (Boxed.new w 3 _).alloc _
 have k1 : Boxed w4 (w.heap.size + 1) 25 (.pointer (some sd)) := by
  rw [← hw4]
  have := Boxed.new (w.alloc (.cells #[.int .i64 48] 3)) 25 (.pointer (some sd))
  rw [World.size_alloc] at this
  exact this
 have hlow : Below w.heap.size w w4 := by rw [← hw4]; exact ((Below.refl _ w).alloc (Nat.le_refl _) _).alloc (by simp) _
 rw [hw4]
 clear hw4
 refine rf_law (gf := 68) (lb := #[.pointer (some ⟨w.heap.size + 1, 0, none⟩)]) (okS := fun b => b = w.heap.size + 1 ∨ ok b) (xs := itS x.2.1 cs 48) rfl
  (enters_of Tryd.func68 (by kernel_rfl) rfl) (fun a ha => by obtain ⟨u, v, rfl⟩ := itS_mem ha; rfl) (all_it h hok w4 hlow _ k1) (by rintro b (rfl | hb); omega; have := hok b hb; omega)
  (fun k W => LfI w sd k W) (fun _ _ => False) (fun k W o h hl => h.put hl (by omega)) (fun k W W' h hb => h.grow hb) (fun _ _ _ h => h.elim) (fun _ _ _ h => h.elim)
  ⟨k0, k1, hlow⟩ ?round ?done (fun c W h => h.elim)
 case round =>
  intro k W r0 hk hIk hl hD
  have hk48 : k < 48 := by have := cntS_le h.lsL; rw [itS_all h.lsL] at hk; omega
  obtain ⟨u, v, hx⟩ := itS_mem (List.getElem_mem hk)
  rw [hx]
  have hl1 : W.heap.size > w4.heap.size + 1 := (Array.getElem?_eq_some_iff.1 hl).1
  gi_wp2
  refine ⟨hl, fun _ _ => trivial, ?_⟩
  have hI1 : LfI w sd k (W.putObj (w4.heap.size + 1) (.loop { r0 with state := .busy })) := hIk.put ⟨_, hl⟩ (by omega)
  have hl2 := World.putObj_heap_same (o := Obj.loop { r0 with state := .busy }) hl1
  have hD2 : (W.putObj (w4.heap.size + 1) (.loop { r0 with state := .busy })).heap[w4.heap.size]? = some (.deferred (some [])) := (World.putObj_heap_other (by omega)).trans hD
  have hok2 : ∀ b, (b = w.heap.size + 1 ∨ ok b) → (W.putObj (w4.heap.size + 1) (.loop { r0 with state := .busy })).heap[b]? = W.heap[b]? := fun b hb => World.putObj_heap_other (by
   rcases hb with rfl | hb
   · omega
   · have := hok b hb; omega)
  generalize W.putObj (w4.heap.size + 1) (.loop { r0 with state := .busy }) = W1 at hI1 hl2 hD2 hok2 ⊢
  obtain ⟨h1, h2, h4⟩ := hI1
  have hc := h1.cell
  have hfz := h1.frozen
  have e1 : IntKind.i64.wrap (48 - (k : Int) - 1) = 48 - ((k + 1 : Nat) : Int) := by rw [IntKind.wrap_i64]; omega
  clear hIk hl hD hl1 k0 k1 hlow
  gi_wp2
  have hg := grownBy_setCell' W1 w.heap.size (.int .i64 (48 - ((k : Int) + 1)))
  have lt2 := (Array.getElem?_eq_some_iff.1 hl2).1
  have b0 := h1.set (.int .i64 (48 - ((k : Int) + 1)))
  have b1 := h2.other (show w.heap.size + 1 ≠ w.heap.size by omega) (.int .i64 (48 - ((k : Int) + 1)))
  refine ⟨⟨(hg.block _ lt2 (fun e => by have := Option.some.inj e; omega)).trans hl2, (hg.block _ (Array.getElem?_eq_some_iff.1 hD2).1 (fun e => by have := Option.some.inj e; omega)).trans hD2⟩, fun b hb => ?_, ⟨by simpa using b0, b1, h4.trans ((Below.refl _ W1).setCell (p := ⟨w.heap.size, 0, none⟩) (Nat.le_refl _) _)⟩⟩
  have hbl : b < W1.heap.size := by
   rcases hb with rfl | hb
   · exact h2.lt
   · have := hok b hb; omega
  exact (hg.block _ hbl (fun e => by
   cases e
   rcases hb with hb | hb
   · omega
   · have := hok _ hb; omega)).trans (hok2 b hb)
 case done =>
  intro W hI hD
  obtain ⟨h1, h2, h4⟩ := hI
  rw [itS_all h.lsL] at h1
  have hc := h1.cell
  have hmW0 : W.cell? (sd.add 49) = some (.pointer (some ma)) := (World.cell?_of_block (w := w) (by rw [add_block]; exact h4.block _ (hok _ h.okS))).trans hma
  have hmW : W.cell? { block := sd.block, off := sd.off + 49 } = some (.pointer (some ma)) := hmW0
  gi_wp2
  have hW0 : ∀ k, Below w.heap.size w (W.drewN k) := fun k => h4.trans ⟨rfl, rfl, rfl, Nat.le_refl _, fun _ _ => rfl⟩
  gi_quiet ((gi_at_call 52; exact CallsIn.quiet_of_same (hcall _ (hW0 _))))
  have hD' : (W.drewN nq).heap[w4.heap.size]? = some (.deferred (some [])) := hD
  have hlW := hW0 nq
  generalize W.drewN nq = W2 at hD' hlW ⊢
  gi_wp2
  refine ⟨by simp, .inl ⟨_, _, rfl, run_takeDeferred hD', ?_⟩⟩
  exact ⟨_, results_tmp2 rfl _ _ _, rfl, hlW.trans ⟨rfl, rfl, rfl, by simp [World.putObj], fun k hk => World.putObj_heap_other (by omega)⟩⟩
theorem repL_bools {w : World} {ok : Nat → Prop} : ∀ {xs : List Bool} {inner : List Value}, RepL (Rep w ok .bool) xs inner → inner = xs.map Value.bool
 | [], _, h => h
 | x :: xs, _, ⟨c1, c2, e, r1, r2⟩ => by
  rw [e, show c1 = [.bool x] from r1, repL_bools r2]; rfl
def ZB.F : List AV0 → (List AV0 → Prop) → Prop := byPs [.rp tShelf] fun x J => ZB x.1 fun a b => J [.tv (.int .i64) a, .tv (.int .i64) b]
theorem ZB.good : Go.Iv.Good Tryd.prog 22 ZB.F where
 fn := ⟨_, Tryd.func22, by kernel_rfl, by kernel_rfl⟩
 det := by
  intro args J hF
  unfold ZB.F byPs at hF
  split at hF
  · rename_i x hx
    obtain ⟨x, u⟩ := x
    have ha : args = [.rptr tShelf x] := psRd_out hx
    subst ha
    obtain ⟨⟨h48, hN⟩, hJ⟩ := hF
    refine ⟨_, hJ, ?_⟩
    rintro args' J' ⟨rfl, hJ'⟩ w ok vals hg hok hlen hvals
    obtain ⟨v, hv, hrv⟩ := hvals 0 _ rfl
    obtain ⟨sd, cs, rfl, hS⟩ := shelf_of (show RepP w ok tShelf x v from hrv [] (fun _ => undef))
    have hvs : vals.toArray = #[.pointer (some sd)] := by
     match vals, hlen, hv with
     | [_], _, hv => cases hv; rfl
    rw [hvs]
    obtain ⟨ma, hma, a', cells, e, hmk, ⟨c1, c2, e1, ⟨A, cap, inner, ei, hle, hm, hl⟩, hc2⟩, hmc⟩ := hS.mapS
    cases e
    have hc2 : c2 = [] := hc2
    subst ei; subst hc2; subst e1
    have hin := repL_bools hl
    have key := callsIn_wide.1 (left_in x w ok hok sd cs hS ma hma (((x.2.2.1.1.filter (!·)).length : Nat) : Int) (fun W hW => by
     refine mapLeft_in 2 ma A cap x.2.2.1.1 hN W ?_ ?_
     · refine (World.cell?_of_block (w := w) (hW.block _ (hok _ hmk))).trans ?_
       have := hmc 0 _ rfl
       rwa [show ma.add 0 = ma from by simp [Addr.add]] at this
     · refine hm.imp id fun ⟨ad, ea, hak, hac⟩ => ⟨ad, ea, fun i b hb => ?_⟩
       refine (World.cell?_of_block (w := w) (by rw [add_block]; exact hW.block _ (hok _ hak))).trans (hac i _ ?_)
       rw [hin, List.getElem?_map]
       exact congrArg (Option.map Value.bool) hb))
    refine key.mono ?_
    rintro e W' ⟨rfl, hb⟩
    refine ⟨_, [_, _], _, ok, hJ', rfl, hb, rfl, rfl, fun b hb => .inl hb, ?_, ?_⟩
    · intro i y hy
      match i, hy with
      | 0, hy => cases hy; exact ⟨_, rfl, fun _ _ => RepV.of_int⟩
      | 1, hy => cases hy; exact ⟨_, rfl, fun _ _ => RepV.of_int⟩
    · intro i e t xs u hx hu
      match i, hx with
      | 0, hx => cases hx
      | 1, hx => cases hx
  · exact hF.elim
end Go.Iw
