/- Contracts proved by hand: Shelf.Keys. -/
import Derived.Test.YtcpeakceigidpaaDoorVHt
set_option linter.all false
namespace Go.Iw
open Go.Iv Go.Proofs Go.RowKit Go.Shelf
attribute [local go_sem] Oper.semAt_some
def kyC (l : List (Option slot)) (k : Nat) : List Value := (((l.filterMap id).map fun x : slot => x.1).take k).flatMap fun y => y.map (Value.int .u8)
theorem kyC_succ {l : List (Option slot)} {k : Nat} {y : slot} (h : (l.filterMap id)[k]? = some y) : kyC l (k + 1) = kyC l k ++ y.1.map (Value.int .u8) := by
 unfold kyC
 have h2 : ((l.filterMap id).map fun x : slot => x.1)[k]? = some y.1 := by rw [List.getElem?_map, h]; rfl
 obtain ⟨hk, e⟩ := List.getElem?_eq_some_iff.1 h2
 rw [List.take_succ_eq_append_getElem hk, List.flatMap_append, e]
 simp
theorem itS_at {w : World} {ok : Nat → Prop} {l : List (Option slot)} {cs : List Value} (hr : RepL (Rep w ok (.op tslot)) l cs) : ∀ n, n ≤ l.length → ∀ k, k < (itS l cs n).length →
 ∃ (i : Nat) (y : slot) (a : Addr), ((l.take n).filterMap id)[k]? = some y ∧ (itS l cs n)[k]? = some #[.int .i64 (i : Int), .pointer (some a)] ∧ ok a.block ∧ RepP w ok tslot y (.pointer (some a)) := by
 obtain ⟨hlen, hp⟩ := rep_ops hr
 intro n
 induction n with
 | zero => intro _ k hk; simp [itS] at hk
 | succ n ih =>
  intro hn k hk
  have hn' : n < l.length := by omega
  have hL := itS_len l cs n (by omega)
  rw [itS_succ, List.take_succ_eq_append_getElem hn', List.filterMap_append]
  rcases Nat.lt_or_ge k (itS l cs n).length with h | h
  · obtain ⟨i, y, a, h1, h2, h3, h4⟩ := ih (by omega) k h
    refine ⟨i, y, a, ?_, ?_, h3, h4⟩
    · rw [List.getElem?_append_left (by rw [← hL]; exact h)]; exact h1
    · rw [List.getElem?_append_left h]; exact h2
  · rw [itS_succ, List.length_append] at hk
    rcases hp n hn' with ⟨e1, e2⟩ | ⟨y, a, e1, e2, e3, e4⟩
    · rw [e1] at hk; simp at hk; omega
    · rw [e1] at hk ⊢
      have hk0 : k = (itS l cs n).length := by simp at hk; omega
      have e5 : l[n] = some y := by rw [List.getElem?_eq_getElem hn'] at e1; exact Option.some.inj e1
      refine ⟨n, y, a, ?_, ?_, e3, e4⟩
      · rw [hk0, hL, List.getElem?_append_right (Nat.le_refl _), Nat.sub_self, e5]; rfl
      · rw [hk0, List.getElem?_append_right (Nat.le_refl _), Nat.sub_self, e2]; rfl
structure KyI (w : World) (sd : Addr) (l : List (Option slot)) (k : Nat) (W : World) : Prop where
 row : ∃ v, Boxed W w.heap.size 51 v ∧ W.ownsRow w.heap.size 29 32 v k (kyC l k)
 b : Boxed W (w.heap.size + 1) 25 (.pointer (some sd))
 low : Below w.heap.size w W
theorem KyI.put {w : World} {sd : Addr} {l0 : List (Option slot)} {k : Nat} {W : World} {o : Obj} {l : Nat} (h : KyI w sd l0 k W) (hl : ∃ r, W.heap[l]? = some (.loop r)) (hn : w.heap.size ≤ l) : KyI w sd l0 k (W.putObj l o) := by
 obtain ⟨r, hl⟩ := hl
 obtain ⟨⟨v, hv, hr⟩, h2, h4⟩ := h
 exact ⟨⟨v, Boxed_putObj hv hl, ownsRow_putObj hr o hl rfl⟩, Boxed_putObj h2 hl, h4.trans ⟨rfl, rfl, rfl, by simp [World.putObj], fun k hk => World.putObj_heap_other (by omega)⟩⟩
theorem KyI.grow {w : World} {sd : Addr} {l0 : List (Option slot)} {k : Nat} {W W' : World} (h : KyI w sd l0 k W) (hb : Below W.heap.size W W') : KyI w sd l0 k W' := by
 obtain ⟨⟨v, hv, hr⟩, h2, h4⟩ := h
 exact ⟨⟨v, Boxed_below hv hb, ownsRow_below hr hb⟩, Boxed_below h2 hb, h4.trans (hb.mono h4.size)⟩
def SortOK : Prop := ∀ (blk cap : Nat) (d : Array Key32) (w : World), CmpLays Tryd.prog 54 #[] encK 32 cfK blk 0 d.size w → Sort.HoldsK encK 32 w blk 0 d → blk < w.heap.size → d.size < 1000000 →
 Calls Tryd.prog 53 #[.slice (some ⟨blk, 0, none⟩) d.size cap, .func (.func 54) #[] #[]] w fun e w' => e = .returned (.tuple #[]) ∧ ∃ n os, w' = sortWorldK encK 32 w blk 0 n (d.toList.mergeSort fun x y => !(ltOf cfK) y x).toArray os
def SortNil : Prop := ∀ (p : Option Addr) (cap : Nat) (w : World), Calls Tryd.prog 53 #[.slice p 0 cap, .func (.func 54) #[] #[]] w fun e w' => e = .returned (.tuple #[]) ∧ w' = w
theorem encK_flat (ks : List Key32) : (ks.flatMap encK).length = ks.length * 32 := by
 induction ks with
 | nil => rfl
 | cons x l ih => rw [List.flatMap_cons, List.length_append, encK_len, ih, List.length_cons, Nat.add_mul]; omega
theorem sort_row (hS : SortOK) (h0 : SortNil) {w : World} {base : Nat} {v : Value} {ks : List Key32} (hrow : w.ownsRow base 29 32 v ks.length (ks.flatMap encK)) (hlen : ks.length < 1000000) :
 CallsIn Fence.wide 2 Tryd.prog 53 #[v, .func (.func 54) #[] #[]] w fun e w' => e = .returned (.tuple #[]) ∧ w.grownBy w' v.ownBlock ∧ w'.ownsRow base 29 32 v ks.length ((ks.mergeSort fun x y => !(ltOf cfK) y x).flatMap encK) := by
 refine callsIn_wide.2 ?_
 rcases hrow.2 with ⟨rfl, hz⟩ | ⟨g, cap, cur, rfl, hb, hg, h1, h2, h3, h4⟩
 · refine (h0 none 0 w).mono ?_
   rintro e w' ⟨rfl, rfl⟩
   obtain rfl : ks = [] := List.eq_nil_of_length_eq_zero hz
   exact ⟨rfl, ⟨rfl, rfl, rfl, Nat.le_refl _, fun _ _ _ => rfl⟩, by simpa using hrow⟩
 · have hgl : g < w.heap.size := (Array.getElem?_eq_some_iff.1 hg).1
   have hfl := flatK_eq encK 32 encK_len (by omega) ks
   have hH : Sort.HoldsK encK 32 w g 0 ks.toArray := by
    unfold Sort.HoldsK
    rw [hfl]
    exact holds_of_blockV hg (by rw [encK_flat]; exact h4)
   have hcmp : CmpLays Tryd.prog 54 #[] encK 32 cfK g 0 ks.toArray.size w := fun m os dk hd x y => callsIn_wide.1 (keyCmp_in x y _)
   have key := hS g cap ks.toArray w hcmp hH hgl (by simpa using hlen)
   simp only [List.size_toArray] at key
   refine key.mono ?_
   rintro e w' ⟨rfl, n, os, rfl⟩
   have hml : (ks.mergeSort fun x y => !(ltOf cfK) y x).length = ks.length := List.length_mergeSort _
   have hfl2 := flatK_eq encK 32 encK_len (by omega) (ks.mergeSort fun x y => !(ltOf cfK) y x)
   unfold sortWorldK Sort.putRowK
   rw [hfl2]
   refine ⟨rfl, ?_, ?_, .inr ⟨g, cap, _, rfl, hb, heap_sortedV _ hg, h1, h2, ?_, ?_⟩⟩
   · exact grownBy_sortedV _
   · rw [encK_flat, hml]
   · simp [Sort.putCells, h3]
   · have := take_putCellsV cur ((ks.mergeSort fun x y => !(ltOf cfK) y x).flatMap encK) (by rw [encK_flat, hml, h3]; exact Nat.mul_le_mul_right _ h1)
     rwa [encK_flat, hml] at this
def kks : (L : List slot) → (∀ y ∈ L, y.1.length = 32) → List Key32
 | [], _ => []
 | y :: L, h => ⟨y.1, h y (List.mem_cons_self ..)⟩ :: kks L fun z hz => h z (List.mem_cons_of_mem _ hz)
theorem kks_len : ∀ (L : List slot) (h : ∀ y ∈ L, y.1.length = 32), (kks L h).length = L.length
 | [], _ => rfl
 | y :: L, h => by simp [kks, kks_len L]
theorem kks_flat : ∀ (L : List slot) (h : ∀ y ∈ L, y.1.length = 32), (kks L h).flatMap encK = (L.map fun x : slot => x.1).flatMap fun y => y.map (Value.int .u8)
 | [], _ => rfl
 | y :: L, h => by simp [kks, kks_flat L, encK]
theorem kks_val : ∀ (L : List slot) (h : ∀ y ∈ L, y.1.length = 32), (kks L h).map (fun x => x.1) = L.map fun x : slot => x.1
 | [], _ => rfl
 | y :: L, h => by simp [kks, kks_val L]
theorem kks_sort (L : List slot) (h : ∀ y ∈ L, y.1.length = 32) : ((kks L h).mergeSort fun x y => !(ltOf cfK) y x).flatMap encK = ((L.map fun x : slot => x.1).mergeSort fun a b => !decide (cmpK b a < 0)).flatMap fun y => y.map (Value.int .u8) := by
 have h1 : ((kks L h).mergeSort fun x y => !(ltOf cfK) y x).map (fun x => x.1) = ((kks L h).map fun x => x.1).mergeSort fun a b => !decide (cmpK b a < 0) := List.map_mergeSort fun a _ b _ => rfl
 rw [kks_val] at h1
 rw [← h1, List.flatMap_map]
 rfl
set_option maxRecDepth 100000 in
set_option maxHeartbeats 4000000 in
theorem keys_in (hS : SortOK) (h0 : SortNil) (x : Shelf) (w : World) (ok : Nat → Prop) (hok : ∀ b, ok b → b < w.heap.size) (sd : Addr) (cs : List Value) (h : Sh w ok x sd cs) :
 CallsIn Fence.wide 3 Tryd.prog 23 #[.pointer (some sd)] w fun e W' => ∃ v, e = .returned v ∧ W'.ownsRow w.heap.size 29 32 v (keysS x.2.1).length ((keysS x.2.1).flatMap fun y => y.map (Value.int .u8)) ∧ Below w.heap.size w W' := by
 have hf51 : Fence.wide.fn 51 := trivial
 refine callsIn_of_wp_marks Tryd.func23 rfl trivial ?_ rfl
 simp only [Tryd.ntmps23, List.size_toArray, List.length_cons, List.length_nil, Nat.reduceAdd, Nat.reduceSub, Array.replicate_succ, Array.replicate_zero, List.push_toArray, List.append_toArray, List.nil_append, List.cons_append]
 gi_wp2_with (gi_at_call 51; refine (all_in _ _ _).mono ?_; rintro e w' ⟨rfl, rfl⟩)
 obtain ⟨w4, hw4⟩ : ∃ w4, ((w.alloc (.cells #[.slice none 0 0] 51)).alloc (.cells #[.pointer (some sd)] 25)) = w4 := ⟨_, rfl⟩
 have hs4 : w4.heap.size = w.heap.size + 2 := by rw [← hw4]; simp
 have k0 : Boxed w4 w.heap.size 51 (.slice none 0 0) := by rw [← hw4]; exact (Boxed.new w 51 _).alloc _
 have k1 : Boxed w4 (w.heap.size + 1) 25 (.pointer (some sd)) := by
  rw [← hw4]
  have := Boxed.new (w.alloc (.cells #[.slice none 0 0] 51)) 25 (.pointer (some sd))
  rw [World.size_alloc] at this
  exact this
 have hlow : Below w.heap.size w w4 := by rw [← hw4]; exact ((Below.refl _ w).alloc (Nat.le_refl _) _).alloc (by simp) _
 rw [hw4]
 clear hw4
 refine rf_law (gf := 68) (lb := #[.pointer (some ⟨w.heap.size + 1, 0, none⟩)]) (okS := fun b => b = w.heap.size + 1 ∨ ok b) (xs := itS x.2.1 cs 48) rfl
  (enters_of Tryd.func68 (by kernel_rfl) rfl) (fun a ha => by obtain ⟨u, v, rfl⟩ := itS_mem ha; rfl) (all_it h hok w4 hlow _ k1) (by rintro b (rfl | hb); omega; have := hok b hb; omega)
  (fun k W => KyI w sd x.2.1 k W) (fun _ _ => False) (fun k W o h hl => h.put hl (by omega)) (fun k W W' h hb => h.grow hb) (fun _ _ _ h => h.elim) (fun _ _ _ h => h.elim)
  ⟨⟨_, k0, World.ownsRow_nil _ _ _ _⟩, k1, hlow⟩ ?round ?done (fun c W h => h.elim)
 case round =>
  intro k W r0 hk hIk hl hD
  obtain ⟨i, y, pa, hy, hx0, hpk, hpr⟩ := itS_at h.repS 48 (by rw [h.lsL]; exact Nat.le_refl _) k hk
  have hx : (itS x.2.1 cs 48)[k] = #[.int .i64 (i : Int), .pointer (some pa)] := by rw [List.getElem?_eq_getElem hk] at hx0; exact Option.some.inj hx0
  have hy : (x.2.1.filterMap id)[k]? = some y := by rw [← h.lsL, List.take_length] at hy; exact hy
  have hk48 : k < 48 := by have := cntS_le h.lsL; rw [itS_all h.lsL] at hk; omega
  obtain ⟨pa', cells, ep, hpk', ⟨c1, c2, e1, ⟨hl32, hrk⟩, _⟩, hpc⟩ := hpr
  cases ep
  have hc1 : c1 = y.1.map (Value.int .u8) := repL_int hrk
  have hkl : (y.1.map (Value.int .u8)).length = 32 := by rw [List.length_map]; exact hl32
  rw [hx]
  have hl1 : W.heap.size > w4.heap.size + 1 := (Array.getElem?_eq_some_iff.1 hl).1
  gi_wp2
  refine ⟨hl, fun _ _ => trivial, ?_⟩
  have hI1 : KyI w sd x.2.1 k (W.putObj (w4.heap.size + 1) (.loop { r0 with state := .busy })) := hIk.put ⟨_, hl⟩ (by omega)
  have hl2 := World.putObj_heap_same (o := Obj.loop { r0 with state := .busy }) hl1
  have hD2 : (W.putObj (w4.heap.size + 1) (.loop { r0 with state := .busy })).heap[w4.heap.size]? = some (.deferred (some [])) := (World.putObj_heap_other (by omega)).trans hD
  have hok2 : ∀ b, (b = w.heap.size + 1 ∨ ok b) → (W.putObj (w4.heap.size + 1) (.loop { r0 with state := .busy })).heap[b]? = W.heap[b]? := fun b hb => World.putObj_heap_other (by
   rcases hb with rfl | hb
   · omega
   · have := hok b hb; omega)
  generalize W.putObj (w4.heap.size + 1) (.loop { r0 with state := .busy }) = W1 at hI1 hl2 hD2 hok2 ⊢
  obtain ⟨⟨V, hv, hr⟩, h2, h4⟩ := hI1
  gi_wp2
  refine keys_region W1 w.heap.size w.heap.size pa _ _ _ _ _ _ _ _ _ _ (y.1.map (Value.int .u8)) (kyC x.2.1 k) hkl (fun u hu => by obtain ⟨q, _, rfl⟩ := List.mem_map.1 hu; rfl) V k hv (fun j u hu => ?_) hr (by omega) h4.size (Nat.le_refl _) (fun v' w3 hown hgrow => ?_)
  · refine (World.cell?_of_block (w := w) (by rw [add_block]; exact h4.block _ (hok _ hpk))).trans (hpc j u ?_)
    rw [e1, hc1, List.getElem?_append_left (List.getElem?_eq_some_iff.1 hu).1]
    exact hu
  · obtain ⟨hv1, hv3, hr3, hk3, hb3⟩ := Boxed.appended (W := W1.drew) hv (by decide) hr h4.size (Nat.le_refl _) hown hgrow
    have b1 := ((Boxed.alloc (W := W1.drew) h2 _).kept hgrow (Boxed.not_row (W := W1.drew) h2 (by decide) hr)).other (show w.heap.size + 1 ≠ w.heap.size by omega) v'
    have hlow2 : Below w.heap.size W1 (w3.setCell ⟨w.heap.size, 0, none⟩ v') := ⟨hb3.os, hb3.tape, hb3.output, hb3.size, hb3.block⟩
    have hmid : ∀ b, (b = w.heap.size + 1 ∨ ok b) → (w3.setCell ⟨w.heap.size, 0, none⟩ v').heap[b]? = W.heap[b]? := fun b hb => by
     rcases hb with rfl | hb
     · exact (show _ = _ from b1).trans ((show _ = _ from h2).symm.trans (hok2 _ (.inl rfl)))
     · exact (hlow2.block b (hok b hb)).trans (hok2 b (.inr hb))
    exact ⟨⟨hk3.2 _ _ hl2 rfl, hk3.2 _ _ hD2 rfl⟩, hmid, ⟨⟨v', hv3, by rw [kyC_succ hy]; exact hr3⟩, b1, h4.trans hlow2⟩⟩
 case done =>
  intro W hI hD
  obtain ⟨⟨V, hv, hr⟩, h2, h4⟩ := hI
  have hc := hv.cell
  have hf53 : Fence.wide.fn 53 := trivial
  have h32 : ∀ y ∈ x.2.1.filterMap id, y.1.length = 32 := by
   intro y hy
   obtain ⟨o, ho, e⟩ := List.mem_filterMap.1 hy
   obtain ⟨i, hi, ei⟩ := List.getElem_of_mem ho
   obtain ⟨_, hp⟩ := rep_ops h.repS
   rcases hp i hi with ⟨e1, _⟩ | ⟨y', a, e1, _, _, a', cells, _, _, ⟨_, _, _, ⟨hl32, _⟩, _⟩, _⟩
   · rw [List.getElem?_eq_getElem hi, ei] at e1
     rw [Option.some.inj e1] at e; cases e
   · rw [List.getElem?_eq_getElem hi, ei] at e1
     rw [Option.some.inj e1] at e; cases e
     exact hl32
  have hcnt : (itS x.2.1 cs 48).length = (kks (x.2.1.filterMap id) h32).length := by rw [itS_all h.lsL, kks_len]; rfl
  have hr' : W.ownsRow w.heap.size 29 32 V (kks (x.2.1.filterMap id) h32).length ((kks (x.2.1.filterMap id) h32).flatMap encK) := by
   rw [kks_flat, ← hcnt]
   have e : kyC x.2.1 (itS x.2.1 cs 48).length = ((x.2.1.filterMap id).map fun x : slot => x.1).flatMap fun y => y.map (Value.int .u8) := by
    unfold kyC
    rw [itS_all h.lsL, List.take_of_length_le (by simp [cntS])]
   rw [← e]; exact hr
  have hsort := sort_row hS h0 hr' (by rw [← hcnt, itS_all h.lsL]; have := cntS_le h.lsL; omega)
  gi_wp2_with (gi_at_call 53; refine hsort.mono ?_; rintro e w' ⟨rfl, hgr, hrow'⟩; have hb2 := hv.kept hgr (hv.not_row (by decide) hr); have hcb := hb2.cell)
  have hDl := (Array.getElem?_eq_some_iff.1 hD).1
  have hne : some w4.heap.size ≠ V.ownBlock := by
   intro e
   rcases hr.2 with ⟨rfl, _⟩ | ⟨g, cap, cur, rfl, _, hg, _⟩
   · simp [Value.ownBlock] at e
   · obtain rfl : w4.heap.size = g := by simpa [Value.ownBlock] using e
     rw [hg] at hD; cases hD
  have hD' : w'.heap[w4.heap.size]? = some (.deferred (some [])) := (hgr.block _ hDl hne).trans hD
  have hlw : Below w.heap.size w w' := h4.grown hgr h4.size (fun k e => (hr.lt k e).1)
  rw [kks_sort, kks_len] at hrow'
  have hln : (x.2.1.filterMap id).length = (keysS x.2.1).length := by simp [keysS, List.length_mergeSort]
  rw [hln] at hrow'
  have hrow2 : w'.ownsRow w.heap.size 29 32 V (keysS x.2.1).length ((keysS x.2.1).flatMap fun y => y.map (Value.int .u8)) := hrow'
  rw [hs4] at hD'
  refine ⟨by simp, .inl ⟨_, _, rfl, run_takeDeferred hD', ?_⟩⟩
  exact ⟨_, results_tmp rfl _ _ _, V, rfl, ownsRow_putObj hrow2 _ hD' rfl, hlw.trans ⟨rfl, rfl, rfl, by simp [World.putObj], fun k hk => World.putObj_heap_other (by omega)⟩⟩
def XB.F : List AV0 → (List AV0 → Prop) → Prop := byPs [.rp tShelf] fun x J => XB x.1 fun r => J [.own 29 (.arr 32 (.int .u8)) r]
theorem keys_good (hS : SortOK) (h0 : SortNil) : Go.Iv.Good Tryd.prog 23 XB.F where
 fn := ⟨_, Tryd.func23, by kernel_rfl, by kernel_rfl⟩
 det := by
  intro args J hF
  unfold XB.F byPs at hF
  split at hF
  · rename_i x hx
    obtain ⟨x, u⟩ := x
    have ha : args = [.rptr tShelf x] := psRd_out hx
    subst ha
    obtain ⟨h48, hJ⟩ := hF
    refine ⟨_, hJ, ?_⟩
    rintro args' J' ⟨rfl, hJ'⟩ w ok vals hg hok hlen hvals
    obtain ⟨v, hv, hrv⟩ := hvals 0 _ rfl
    obtain ⟨sd, cs, rfl, hSh⟩ := shelf_of (show RepP w ok tShelf x v from hrv [] (fun _ => undef))
    have hvs : vals.toArray = #[.pointer (some sd)] := by
     match vals, hlen, hv with
     | [_], _, hv => cases hv; rfl
    rw [hvs]
    have key := callsIn_wide.1 (keys_in hS h0 x w ok hok sd cs hSh)
    have h32 : ∀ y ∈ keysS x.2.1, y.length = 32 := by
     intro y hy
     unfold keysS at hy
     rw [List.mem_mergeSort] at hy
     obtain ⟨z, hz, rfl⟩ := List.mem_map.1 hy
     obtain ⟨o, ho, e⟩ := List.mem_filterMap.1 hz
     obtain ⟨i, hi, ei⟩ := List.getElem_of_mem ho
     obtain ⟨_, hp⟩ := rep_ops hSh.repS
     rcases hp i hi with ⟨e1, _⟩ | ⟨y', a, e1, _, _, a', cells, _, _, ⟨_, _, _, ⟨hl32, _⟩, _⟩, _⟩
     · rw [List.getElem?_eq_getElem hi, ei] at e1
       rw [Option.some.inj e1] at e; cases e
     · rw [List.getElem?_eq_getElem hi, ei] at e1
       rw [Option.some.inj e1] at e; cases e
       exact hl32
    refine key.mono ?_
    rintro e W' ⟨v', rfl, hown, hbel⟩
    refine ⟨_, [v'], v', ok, hJ', rfl, hbel, rfl, rfl, fun b hb => .inl hb, ?_, ?_⟩
    · intro i x hx
      match i, hx with
      | 0, hx => cases hx; exact ⟨v', rfl, fun _ _ => trivial⟩
    · intro i e t xs u hx hu
      match i, hx, hu with
      | 0, hx, hu =>
       cases hx; cases hu
       refine ⟨(keysS x.2.1).flatMap fun y => y.map (Value.int .u8), ?_, ?_, fun b hb => ?_⟩
       · exact ⟨hown.1, hown.2.imp id fun ⟨g, cap, cur, e, _, h⟩ => ⟨g, cap, cur, e, Nat.zero_le _, h⟩⟩
       · have := repL_flat (R := Rep W' ok (.arr 32 (.int .u8))) (fun y : List Int => y) (fun y => y.map (Value.int .u8)) (keysS x.2.1) fun y hy => ⟨h32 y hy, repL_of_int y⟩
         rwa [List.map_id'] at this
       · rcases hown.2 with ⟨rfl, _⟩ | ⟨g, cap, cur, rfl, hg, _⟩
         · simp [blk] at hb
         · simp [blk] at hb
           subst hb
           exact ⟨fun h => by have := hok _ h; omega, hg⟩
  · exact hF.elim
end Go.Iw
