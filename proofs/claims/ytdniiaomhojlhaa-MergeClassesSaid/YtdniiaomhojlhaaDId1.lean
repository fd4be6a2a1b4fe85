/- chart.IDs, the first part: the iterator over the numbers of some charts. -/
import Derived.RangeFuncBox
import Derived.RangeFuncLeaves
import Derived.Shelf.Abstract
import Derived.WalkKit
import Derived.OwnWalkIn
import Derived.TacticsInMore
import Derived.LoopNIn
import Derived.LoopIn
import Derived.Maps.AppendAt
import Derived.Sort.OwnSortedInts
import Derived.Deep.WholeRow
import Derived.Test.YtdniiaomhojlhaaDBs
import Derived.Test.YtdniiaomhojlhaaDSh
import Derived.Test.YtdniiaomhojlhaaDId0
import Derived.Test.YtdniiaomhojlhaaStep
namespace Go.Iw
open Go.Iv Go.Proofs Go.RowKit Go.Shelf
set_option linter.unusedVariables false
set_option linter.unusedSimpArgs false

attribute [local go_sem] Oper.semAt_some

/-- The cells of an element. -/
def cL (x : Elem) : List Value := [.int .i64 x.1, .int .u8 x.2.1, .int .i64 x.2.2.1, .int .i64 x.2.2.2.1, .string x.2.2.2.2.1, .int .i64 x.2.2.2.2.2.1, .int .i64 x.2.2.2.2.2.2.1, .string x.2.2.2.2.2.2.2.1, .string x.2.2.2.2.2.2.2.2.1, .string x.2.2.2.2.2.2.2.2.2.1]
theorem rep_cL (w : World) (ok : Nat → Prop) (x : Elem) : Rep w ok tElem x (cL x) := by
  simp [Rep, cL]
theorem rep_eqL {w : World} {ok : Nat → Prop} {x : Elem} {cs : List Value} (h : Rep w ok tElem x cs) : cs = cL x := by
  simp [Rep] at h
  simp [h, cL]
theorem load_elem {w : World} {ad : Addr} {x : Elem} (hc : ∀ (j : Nat) (u : Value), (cL x)[j]? = some u → w.cell? (ad.add j) = some u) : (loadVar 27 ad).run Try.prog w = .ok (.agg (cL x).toArray) w := by
  obtain ⟨v, h1, cs, h2, h3⟩ := run_loadVar_rep (w := w) (ok := fun _ => False) (base_ty 27 tElem (by kernel_rfl)) (rep_cL _ _ x) hc
  rw [h1, h3, rep_eqL h2]
theorem st_elem {W : World} {X : Nat} {z : Array Value} (hb : W.heap[X]? = some (.cells z 27 (0, 0))) (hz : z.size = 10) (x : Elem) : (storeVar 27 ⟨X, 0, none⟩ (.agg (cL x).toArray)).run Try.prog W = .ok () (W.setRow X (cL x).toArray) := by
  have := storeVar_run (P := Try.prog) (base_ty 27 tElem (by kernel_rfl)) W X 0 _ 27 hb (.agg (cL x).toArray) [] z.toList [] (by simp) rfl (by simp [hz]; rfl) rfl (by
    intro u hu
    simp [Value.cells, cL] at hu
    rcases hu with rfl | rfl | rfl | rfl | rfl | rfl | rfl | rfl | rfl | rfl <;> rfl)
  rw [this]; simp [Value.cells, cL]

theorem st_elem_new (W : World) (z : Array Value) (hz : z.size = 10) (x : Elem) : (storeVar 27 ⟨W.heap.size, 0, none⟩ (.agg (cL x).toArray)).run Try.prog (W.alloc (.cells z 27)) = .ok () (W.alloc (.cells (cL x).toArray 27)) := by
  rw [st_elem (World.alloc_heap_new _ _) hz, World.setRow_alloc_new]
theorem elem_num (W : World) (x : Elem) : (W.alloc (.cells (cL x).toArray 27)).cell? ⟨W.heap.size, 0, none⟩ = some (.int .i64 x.1) := by
  have h : (W.alloc (.cells (cL x).toArray 27)).heap[W.heap.size]? = some (.cells (cL x).toArray 27) := World.alloc_heap_new _ _
  simp only [World.cell?, h]
  simp [cL]
theorem load_sl {w : World} {ad : Addr} {v : Value} (h : w.cell? ad = some v) : (loadVar 24 ad).run Try.prog w = .ok v w := by
  have hagg : (isAgg 24).run Try.prog w = .ok false w := by simp [isAgg, underlying, Try.underlying24]
  simp only [loadVar, Sem.run_bind, hagg, Result.andThen_ok, if_false, Bool.false_eq_true, run_load, h]

theorem load_num {w : World} {ad : Addr} {v : Value} (h : w.cell? ad = some v) : (loadVar 3 ad).run Try.prog w = .ok v w := by
  have hagg : (isAgg 3).run Try.prog w = .ok false w := by simp [isAgg, underlying, Try.underlying3]
  simp only [loadVar, Sem.run_bind, hagg, Result.andThen_ok, if_false, Bool.false_eq_true, run_load, h]

/-- The elements of a chart; charts. -/
def Els (n₀ : Nat) (W : World) (A : Option Addr) (zs : List Elem) : Prop :=
  zs = [] ∨ ∃ ad : Addr, A = some ad ∧ ad.block < n₀ ∧ ∀ k, k < zs.length → ∀ (j : Nat) (u : Value), (cL (zs[k]?.getD Elem.z))[j]? = some u → W.cell? (ad.add (k * 10 + j)) = some u
def Chs (n₀ : Nat) (W : World) (A : Option Addr) (ls : List (List Elem)) : Prop :=
  ls = [] ∨ ∃ ad : Addr, A = some ad ∧ ad.block < n₀ ∧ ∀ k, k < ls.length → ∃ A' c', W.cell? (ad.add k) = some (.slice A' (ls[k]?.getD []).length c') ∧ Els n₀ W A' (ls[k]?.getD [])
theorem Els.below {n₀ : Nat} {V W : World} (h : Below n₀ V W) {A : Option Addr} {zs : List Elem} : Els n₀ V A zs → Els n₀ W A zs
  | .inl e => .inl e
  | .inr ⟨ad, e, hb, hc⟩ => .inr ⟨ad, e, hb, fun k hk j u hu => (h.cell (by rw [add_block]; exact hb)).trans (hc k hk j u hu)⟩
theorem Chs.below {n₀ : Nat} {V W : World} (h : Below n₀ V W) {A : Option Addr} {ls : List (List Elem)} : Chs n₀ V A ls → Chs n₀ W A ls
  | .inl e => .inl e
  | .inr ⟨ad, e, hb, hc⟩ => .inr ⟨ad, e, hb, fun k hk => by
      obtain ⟨A', c', h1, h2⟩ := hc k hk
      exact ⟨A', c', (h.cell (by rw [add_block]; exact hb)).trans h1, h2.below h⟩⟩

/-- The numbers of the first so many charts; and of the first so many elements of one. -/
def nums (ls : List (List Elem)) (k : Nat) : List Int := ((ls.take k).flatMap id).map (·.1)
def numsK (ls : List (List Elem)) (k q : Nat) : List Int := nums ls k ++ ((ls[k]?.getD []).take q).map (·.1)
theorem nums_succ (ls : List (List Elem)) (k : Nat) (hk : k < ls.length) : nums ls (k + 1) = numsK ls k (ls[k]?.getD []).length := by
  unfold nums numsK nums
  rw [List.take_succ_eq_append_getElem hk, List.flatMap_append, List.map_append, List.take_length, List.getElem?_eq_getElem hk]
  simp
theorem numsK_zero (ls : List (List Elem)) (k : Nat) : numsK ls k 0 = nums ls k := by simp [numsK]
theorem numsK_succ (ls : List (List Elem)) (k q : Nat) (hq : q < (ls[k]?.getD []).length) : numsK ls k (q + 1) = numsK ls k q ++ [((ls[k]?.getD [])[q]?.getD Elem.z).1] := by
  unfold numsK
  rw [List.take_succ_eq_append_getElem hq, List.map_append, List.append_assoc, List.getElem?_eq_getElem hq]
  rfl
theorem sum_take (ls : List (List Elem)) : ∀ k, (nums ls k).length ≤ (ls.map List.length).sum := by
  intro k
  unfold nums
  rw [List.length_map]
  induction ls generalizing k with
  | nil => simp
  | cons c ls ih =>
    cases k with
    | zero => simp
    | succ k => have := ih k; simp at this ⊢; omega
theorem numsK_len (ls : List (List Elem)) (k q : Nat) (hk : k < ls.length) : (numsK ls k q).length ≤ (ls.map List.length).sum := by
  have h1 := sum_take ls (k + 1)
  rw [nums_succ ls k hk] at h1
  refine Nat.le_trans ?_ h1
  unfold numsK
  simp
  omega

/-- WHAT HOLDS WHILE NUMBERS ARE PUT TOGETHER. -/
def All (n₀ : Nat) (W0 : World) (v : Value) (xs : List Int) (W : World) : Prop := W.ownsRow n₀ 3 1 v xs.length (xs.map (Value.int .i64)) ∧ Below n₀ W0 W
set_option maxRecDepth 100000 in
set_option maxHeartbeats 4000000 in
/-- chart.ids's closure. -/
theorem ids1_in (l Bs : Nat) (A : Option Addr) (cap : Nat) (ls : List (List Elem)) (hreach : (ls.map List.length).sum * 8 ≤ 70368744177664) (hll : ls.length ≤ 1000000000000) (W : World) (n₀ : Nat) (hn₀ : n₀ ≤ W.heap.size)
    (hBs : W.heap[Bs]? = some (.cells #[.slice A ls.length cap] 50 (0, 0))) (hI : Chs n₀ W A ls)
    (J0 : World → Prop) (J : Nat → List Int → World → Prop)
    (hJ0 : ∀ W', J0 W → Below W.heap.size W W' → J0 W') (hJs : ∀ g W', J0 W' → g < W'.heap.size → W.heap.size ≤ g → J g [] W') (h0 : J0 W)
    (hY : ∀ g pre x W1, W.heap.size ≤ g → J g pre W1 → pre.length < (ls.map List.length).sum → g < W1.heap.size → YieldAt Fence.wide 1 Try.prog l #[.int .i64 x] W1 fun e W' => e = .returned (.bool true) ∧ J g (pre ++ [x]) W' ∧ W'.heap[g]? = W1.heap[g]?) :
    CallsIn Fence.wide 2 Try.prog 71 #[.func (.yield l) #[] #[], .pointer (some ⟨Bs, 0, none⟩)] W fun e W' => (∃ v, e = .returned v) ∧ ((∃ g, J g (sortI (nums ls ls.length)) W') ∨ (sortI (nums ls ls.length) = [] ∧ J0 W')) := by
  have hB0 : W.cell? ⟨Bs, 0, none⟩ = some (.slice A ls.length cap) := by simp [World.cell?, hBs]
  have hf72 : Fence.wide.fn 72 := trivial
  have hf73 : Fence.wide.fn 73 := trivial
  have hBl : Bs < W.heap.size := (Array.getElem?_eq_some_iff.1 hBs).1
  obtain ⟨i0, hi, hz0, hz1, hz2⟩ : ∃ i, Try.prog.info? 3 = some i ∧ i.zero = some (.int .i64 0) ∧ i.size = 1 ∧ i.bytes = 8 := ⟨Try.t3, by kernel_rfl, rfl, rfl, rfl⟩
  refine callsIn_of_wp Try.func71 rfl trivial ?_ rfl
  simp only [Try.ntmps71, List.size_toArray, List.length_cons, List.length_nil, Nat.reduceAdd, Nat.reduceSub, Array.replicate_succ, Array.replicate_zero, List.push_toArray, List.append_toArray, List.nil_append, List.cons_append]
  gi_wp2
  gi_loopw [12, 3] (fun i v wr => ∃ k : Nat, k ≤ ls.length ∧ i = .int .i64 k ∧ All W.heap.size W v (nums ls k) wr)
    (fun i _ _ => ls.length - (RowKit.intOf i).toNat)
  case atStart => exact ⟨0, Nat.zero_le _, rfl, World.ownsRow_nil _ _ _ _, Below.refl _ _⟩
  case round =>
    obtain ⟨k, hk, rfl, hown, hnx⟩ := hrel
    by_cases hlt : k < ls.length
    · rcases hI with rfl | ⟨ad, rfl, hb, hc⟩
      · simp at hlt
      obtain ⟨A', c', hcellW, hels⟩ := hc k hlt
      have hcell := ((hnx.mono hn₀).cell (by rw [add_block]; exact hb)).trans hcellW
      clear hcellW
      have hks := nums_succ ls k hlt
      have hkl := fun q => numsK_len ls k q hlt
      have hkq := fun q => numsK_succ ls k q
      have hin : (ls[k]?.getD []).length * 8 ≤ 70368744177664 := by
        have h1 := sum_take ls (k + 1)
        rw [nums_succ ls k hlt] at h1
        unfold numsK at h1
        simp at h1
        omega
      obtain ⟨c, hC⟩ : ∃ c, ls[k]?.getD [] = c := ⟨_, rfl⟩
      rw [hC] at hcell hels hin hks
      simp only [hC] at hkq
      clear hC
      have hs24 : (sizeOf 24).run Try.prog wr = .ok 1 wr := sizeOf_run (base_ty 24 (.sl 27 tElem) (by kernel_rfl))
      have hcell' : wr.cell? (ad.add (k * 1)) = some (.slice A' c.length c') := by rw [Nat.mul_one]; exact hcell
      gi_wp2_with (with_reducible show wpListIn _ _ _ _ _ _ _ _; first | refine in_idx rfl rfl Try.underlying50 hs24 rfl rfl hlt ?_ | refine in_load rfl rfl rfl (load_sl hcell') ?_)
      clear hcell hcell' hs24
      have hels0 : Els n₀ W A' c := hels
      gi_loopw [18, 3] (fun i v wq => ∃ q : Nat, q ≤ c.length ∧ i = .int .i64 q ∧ All W.heap.size W v (numsK ls k q) wq)
        (fun i _ _ => c.length - (RowKit.intOf i).toNat)
      case atStart => exact ⟨0, Nat.zero_le _, rfl, by rw [numsK_zero]; exact ⟨hown, hnx⟩⟩
      case round =>
        clear hnx hown
        obtain ⟨q, hq, rfl, hown, hnx⟩ := hrel
        by_cases hlq : q < c.length
        · rcases (hels0.below (hnx.mono hn₀)) with rfl | ⟨ad', rfl, hb', hc'⟩
          · simp at hlq
          have hs27 : (sizeOf 27).run Try.prog wr = .ok 10 wr := sizeOf_run (base_ty 27 tElem (by kernel_rfl))
          have hcx : ∀ (j : Nat) (u : Value), (cL (c[q]?.getD Elem.z))[j]? = some u → wr.cell? ((ad'.add (q * 10)).add j) = some u := fun j u hu => by
            rw [add_add]; exact hc' q hlq j u hu
          have hkq := hkq q hlq
          have hkl := hkl (q + 1)
          obtain ⟨x, hX⟩ : ∃ x, c[q]?.getD Elem.z = x := ⟨_, rfl⟩
          rw [hX] at hcx hkq
          clear hX
          gi_wp2_with (with_reducible show wpListIn _ _ _ _ _ _ _ _; first | refine in_idx rfl rfl Try.underlying24 hs27 rfl rfl hlq ?_ | refine in_load rfl rfl rfl (load_elem hcx) ?_ | refine in_store rfl rfl rfl rfl (st_elem_new _ _ rfl x) ?_ | refine in_load rfl rfl rfl (load_num (elem_num _ x)) ?_ | (gi_at_builtin; refine wpListIn_append_own _ rfl _ _ 75 rfl W.heap.size 3 i0 (.int .i64 0) 1 8 Try.underlying75 hi hz0 hz1 hz2 rfl (by decide) _ _ _ rfl ((hown.alloc _).alloc _) ⟨wr.heap.size + 1, 0, none⟩ 1 1 [.int .i64 x.1] rfl rfl ?c1 ?c2 ?c3 ?c4 ?c5 ?_))
          case c1 =>
            intro j u hj
            match j, hj with
            | 0, hj =>
              cases hj
              have h : ((wr.alloc (.cells (cL x).toArray 27)).alloc (.cells #[.int .i64 x.1] 3)).heap[(wr.alloc (.cells (cL x).toArray 27)).heap.size]? = some (.cells #[.int .i64 x.1] 3) := World.alloc_heap_new _ _
              rw [World.size_alloc] at h
              rw [Addr.add_mid]
              simp only [World.cell?, Nat.zero_add, h]
              rfl
          case c2 => intro u hu; simp at hu; subst hu; rfl
          case c3 => rw [hkq] at hkl; simp at hkl; unfold maxLen; omega
          case c4 => rw [hkq] at hkl; simp at hkl; omega
          case c5 => have := hnx.size; simp; omega
          intro v' w3 hown' hgrow _
          have hnx3 : Below W.heap.size W w3 := ((hnx.alloc hnx.size _).alloc (by have := hnx.size; simp; omega) _).grown hgrow (by have := hnx.size; simp; omega) (fun k e => (hown.lt k e).1)
          have hrow3 : All W.heap.size W v' (numsK ls k (q + 1)) w3 := ⟨by rw [hkq]; simpa using hown', hnx3⟩
          clear hown' hgrow hown hnx hcx hs27 hc'
          gi_wp2
          go_roundw
          case rel => exact ⟨q + 1, by omega, by simp, hrow3⟩
          case measure => simp [RowKit.intOf]; omega
        · have : q = c.length := by omega
          subst this
          rw [← hks] at hown
          gi_wp2
          go_roundw
          case rel => exact ⟨k + 1, by omega, by simp, hown, hnx⟩
          case measure => simp [RowKit.intOf]; omega
    · have : k = ls.length := by omega
      subst this
      rcases hown.2 with ⟨rfl, hz⟩ | ⟨gb, cap', cur, rfl, hbase, hgb, r1, r2, r3, r4⟩
      · have hn : nums ls ls.length = [] := List.eq_nil_of_length_eq_zero (by simpa using hz)
        gi_wp2_with (first | (gi_at_call 72; refine (callsIn_wide.2 (Try.slices_Sort_int_none none 0 _)).mono ?_; rintro e w' ⟨rfl, rfl⟩) | (gi_at_call 73; refine (callsIn_wide.2 (Try.slices_Compact_int_empty none 0 _)).mono ?_; rintro e w' ⟨rfl, rfl⟩))
        have hj0 := hJ0 _ h0 hnx
        gi_loopw [34] (fun i wq => i = .int .i64 0 ∧ J0 wq) (fun _ _ => 0)
        case atStart => exact ⟨rfl, hj0⟩
        case round =>
          obtain ⟨rfl, hj⟩ := hrel
          gi_wp2
          go_end0
          exact ⟨⟨_, rfl⟩, .inr ⟨by rw [hn]; rfl, hj⟩⟩
      · have hgl : gb < wr.heap.size := (Array.getElem?_eq_some_iff.1 hgb).1
        have hlen := sum_take ls ls.length
        have hH : Sort.Holds (Value.int .i64) wr gb 0 (nums ls ls.length).toArray := holds_of_blockI hgb (by simpa using r4)
        gi_wp2_with (gi_at_call 72; refine (callsIn_wide.2 (Try.slices_Sort_int gb 0 cap' (nums ls ls.length) _ hH hgl (by omega))).mono ?_; rintro e w1 ⟨rfl, nn, os, rfl⟩)
        obtain ⟨zs, hzs⟩ : ∃ zs, (nums ls ls.length).mergeSort (fun x y => decide (x ≤ y)) = zs := ⟨_, rfl⟩
        have hzl : zs.length = (nums ls ls.length).length := by rw [← hzs]; simp
        have hcz : Go.Lib.compact zs = sortI (nums ls ls.length) := by rw [← hzs]; exact sort_is _
        have hcl : (sortI (nums ls ls.length)).length ≤ zs.length := by rw [hzl]; exact srt_len _
        have hw1 := heap_sortedI (n := nn) (os := os) zs.toArray hgb
        have hb1 : Below W.heap.size W (Sort.grow (Sort.putRow (Value.int .i64) (Sort.ahead wr nn) gb 0 zs.toArray) os) := hnx.grown (grownBy_sortedI _) hnx.size (fun j hj => by cases hj; exact hbase)
        rw [hzs, ← hzl]
        have ht1 := take_putCellsI cur zs (by omega)
        generalize Sort.putCells (Value.int .i64) 0 zs.toArray cur = cur1 at hw1 ht1
        generalize Sort.grow (Sort.putRow (Value.int .i64) (Sort.ahead wr nn) gb 0 zs.toArray) os = w1 at hw1 hb1 ⊢
        have hH1 : Sort.Holds (Value.int .i64) w1 gb 0 zs.toArray := holds_of_blockI hw1 (by simpa using ht1)
        refine (callsIn_wide.2 (Try.slices_Compact_int gb 0 cap' zs w1 hH1 (by omega) (by omega))).mono ?_
        rintro e w2 ⟨rfl, nq, rfl⟩
        rw [hcz]
        obtain ⟨ids, hids⟩ : ∃ ids, sortI (nums ls ls.length) = ids := ⟨_, rfl⟩
        have hil : ids.length ≤ (ls.map List.length).sum := by rw [← hids]; exact Nat.le_trans (srt_len _) hlen
        rw [hids] at hcl hcz ⊢
        have hw2 : (Sort.putRow (Value.int .i64) (Sort.ahead w1 nq) gb 0 (ids ++ List.replicate (zs.length - ids.length) 0).toArray).heap[gb]? = some (.cells _ 3 (0, 0)) := heap_sortedI (n := nq) (os := #[]) _ hw1
        have hb2 : Below W.heap.size W (Sort.putRow (Value.int .i64) (Sort.ahead w1 nq) gb 0 (ids ++ List.replicate (zs.length - ids.length) 0).toArray) := hb1.grown (grownBy_sortedI (n := nq) (os := #[]) _) hb1.size (fun j hj => by cases hj; exact hbase)
        have ht2 := take_putCellsI cur1 (ids ++ List.replicate (zs.length - ids.length) 0) (by
          have := congrArg List.length ht1
          simp at this ⊢; omega)
        generalize Sort.putCells (Value.int .i64) 0 (ids ++ List.replicate (zs.length - ids.length) 0).toArray cur1 = cur2 at hw2 ht2
        generalize Sort.putRow (Value.int .i64) (Sort.ahead w1 nq) gb 0 (ids ++ List.replicate (zs.length - ids.length) 0).toArray = w2 at hw2 hb2 ⊢
        have hcell2 : ∀ j, j < ids.length → cur2[j]? = some (.int .i64 (ids[j]?.getD 0)) := fun j hj => by
          have := congrArg (fun l => l[j]?) ht2
          simp only [List.length_append, List.length_replicate] at this
          rw [List.getElem?_take_of_lt (by omega)] at this
          rw [Array.getElem?_toList, List.map_append, List.getElem?_append_left (by simpa using hj)] at this
          rw [this, List.getElem?_map, List.getElem?_eq_getElem hj]
          rfl
        have hgl2 : gb < w2.heap.size := (Array.getElem?_eq_some_iff.1 hw2).1
        have hjs := hJs gb w2 (hJ0 _ h0 hb2) hgl2 hbase
        clear hw1 hb1 ht1 hH1 hH ht2 hcz hzl hzs r1 r2 r3 r4 hown hnx hgb hgl hcl
        clear hb2
        generalize zs.length = zl at *
        gi_wp2
        gi_loopw [34] (fun i wq => ∃ j : Nat, j ≤ ids.length ∧ i = .int .i64 j ∧ J gb (ids.take j) wq ∧ wq.heap[gb]? = some (.cells cur2 3 (0, 0)))
          (fun i _ => ids.length - (RowKit.intOf i).toNat)
        case atStart => exact ⟨0, Nat.zero_le _, rfl, by simpa using hjs, hw2⟩
        case round =>
          clear hjs hw2
          obtain ⟨j, hj, rfl, hJj, hwj⟩ := hrel
          by_cases hlj : j < ids.length
          · have hgq : gb < wr.heap.size := (Array.getElem?_eq_some_iff.1 hwj).1
            have hcj : wr.cell? (Addr.add ⟨gb, 0, none⟩ (j * 1)) = some (.int .i64 (ids[j]?.getD 0)) := by
              rw [Addr.add_mid]
              simp only [World.cell?, Nat.zero_add, Nat.mul_one, hwj]
              exact hcell2 j hlj
            have hs3 : (sizeOf 3).run Try.prog wr = .ok 1 wr := sizeOf_run (base_ty 3 (.int .i64) (by kernel_rfl))
            have htk : ids.take (j + 1) = ids.take j ++ [ids[j]?.getD 0] := by
              rw [List.take_succ_eq_append_getElem hlj, List.getElem?_eq_getElem hlj]; rfl
            obtain ⟨y, hy0⟩ : ∃ y, ids[j]?.getD 0 = y := ⟨_, rfl⟩
            rw [hy0] at hcj htk
            clear hy0
            obtain ⟨fn, tmps, assign, body, hy, hR⟩ := hY gb (ids.take j) y wr hbase hJj (by simp; omega) hgq
            gi_wp2_with (with_reducible show wpListIn _ _ _ _ _ _ _ _; first | refine in_idx rfl rfl Try.underlying75 hs3 rfl rfl hlj ?_ | refine in_load rfl rfl rfl (load_num hcj) ?_)
            refine hR.mono ?_
            rintro e W3 ⟨rfl, hJ3, hk3⟩
            gi_wp2
            go_roundw
            case rel => exact ⟨j + 1, by omega, by simp, by rw [htk]; exact hJ3, hk3.trans hwj⟩
            case measure => simp [RowKit.intOf]; omega
          · have : j = ids.length := by omega
            subst this
            gi_wp2
            go_end0
            exact ⟨⟨_, rfl⟩, .inl ⟨gb, by rw [hids]; simpa using hJj⟩⟩
end Go.Iw
