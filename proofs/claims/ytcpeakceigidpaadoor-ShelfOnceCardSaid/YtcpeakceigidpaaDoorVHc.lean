/- Contracts proved by hand: how Shelf.Keys compares. -/
import Derived.Test.YtcpeakceigidpaaDoorVHr
import Derived.Shelf.SlSortCmp.WholeK
set_option linter.all false
namespace Go.Iw
open Go.Iv Go.Proofs Go.RowKit Go.Shelf
attribute [local go_sem] Oper.semAt_some
def cmpN (a b : Int) : Int := if a < b then -1 else if b < a then 1 else 0
set_option maxRecDepth 100000 in
set_option maxHeartbeats 2000000 in
theorem nan_in (n : Nat) (a : Int) (w : World) : CallsIn Fence.wide n Tryd.prog 87 #[.int .u8 a] w fun e w' => e = .returned (.bool false) ∧ w' = w := by
 refine callsIn_of_wp Tryd.func87 rfl trivial ?_ rfl
 simp only [Tryd.ntmps87, List.size_toArray, List.length_cons, List.length_nil, Nat.reduceAdd, Nat.reduceSub, Array.replicate_succ, Array.replicate_zero, List.push_toArray, List.append_toArray, List.nil_append, List.cons_append]
 gi_wp2
 go_ret
 exact ⟨by simp, rfl⟩
set_option maxRecDepth 100000 in
set_option maxHeartbeats 2000000 in
theorem cmp_in (n : Nat) (a b : Int) (w : World) : CallsIn Fence.wide (n + 1) Tryd.prog 71 #[.int .u8 a, .int .u8 b] w fun e w' => e = .returned (.int .i64 (cmpN a b)) ∧ w' = w := by
 have hf87 : Fence.wide.fn 87 := trivial
 refine callsIn_of_wp Tryd.func71 rfl trivial ?_ rfl
 simp only [Tryd.ntmps71, List.size_toArray, List.length_cons, List.length_nil, Nat.reduceAdd, Nat.reduceSub, Array.replicate_succ, Array.replicate_zero, List.push_toArray, List.append_toArray, List.nil_append, List.cons_append]
 unfold cmpN
 by_cases h1 : a < b
 · gi_wp2_with (gi_at_call 87; refine (nan_in _ _ _).mono ?_; rintro e w' ⟨rfl, rfl⟩)
   go_ret
   exact ⟨by simp [h1], rfl⟩
 · by_cases h2 : b < a
   · gi_wp2_with (gi_at_call 87; refine (nan_in _ _ _).mono ?_; rintro e w' ⟨rfl, rfl⟩)
     go_ret
     exact ⟨by simp [h1, h2], rfl⟩
   · gi_wp2_with (gi_at_call 87; refine (nan_in _ _ _).mono ?_; rintro e w' ⟨rfl, rfl⟩)
     go_ret
     exact ⟨by simp [h1, h2], rfl⟩
def Bys (w : World) (A : Option Addr) (xs : List Int) : Prop := ∀ i, i < xs.length → ∃ ad, A = some ad ∧ w.cell? (ad.add i) = some (.int .u8 (xs[i]?.getD 0))
theorem cmpK_drop {xs ys : List Int} (hl : xs.length = ys.length) : ∀ k, k ≤ xs.length → (∀ j, j < k → xs[j]? = ys[j]?) → cmpK xs ys = cmpK (xs.drop k) (ys.drop k) := by
 intro k
 induction k with
 | zero => intro _ _; simp
 | succ k ih =>
  intro hk he
  rw [ih (by omega) (fun j hj => he j (by omega))]
  have h1 : k < xs.length := by omega
  have h2 : k < ys.length := by omega
  rw [List.drop_eq_getElem_cons h1, List.drop_eq_getElem_cons h2]
  have := he k (by omega)
  rw [List.getElem?_eq_getElem h1, List.getElem?_eq_getElem h2] at this
  rw [Option.some.inj this]
  simp [cmpK]
theorem cmpK_at {xs ys : List Int} (hl : xs.length = ys.length) {k : Nat} (hk : k < xs.length) (he : ∀ j, j < k → xs[j]? = ys[j]?) (hne : cmpN (xs[k]?.getD 0) (ys[k]?.getD 0) ≠ 0) : cmpK xs ys = cmpN (xs[k]?.getD 0) (ys[k]?.getD 0) := by
 rw [cmpK_drop hl k (by omega) he]
 have h2 : k < ys.length := by omega
 rw [List.drop_eq_getElem_cons hk, List.drop_eq_getElem_cons h2]
 rw [List.getElem?_eq_getElem hk, List.getElem?_eq_getElem h2] at hne ⊢
 simp only [Option.getD_some] at hne ⊢
 unfold cmpN at hne ⊢
 unfold cmpK
 split
 · rfl
 · split
   · rfl
   · rename_i h1 h2'
     simp [h1, h2'] at hne
theorem cmpK_same {xs ys : List Int} (hl : xs.length = ys.length) (he : ∀ j, j < xs.length → xs[j]? = ys[j]?) : cmpK xs ys = 0 := by
 rw [cmpK_drop hl xs.length (Nat.le_refl _) he, List.drop_length, hl, List.drop_length]; rfl
theorem cmpN_zero {a b : Int} (h : cmpN a b = 0) : a = b := by
 unfold cmpN at h
 split at h
 · omega
 · split at h <;> omega
set_option maxRecDepth 100000 in
set_option maxHeartbeats 4000000 in
theorem compare_in (n : Nat) (A B : Option Addr) (c d : Nat) (xs ys : List Int) (N : Nat) (hxl : xs.length = N) (hyl : ys.length = N) (hN : N ≤ 1000000) (w : World) (hx : Bys w A xs) (hy : Bys w B ys) :
 CallsIn Fence.wide (n + 2) Tryd.prog 55 #[.slice A N c, .slice B N d] w fun e w' => e = .returned (.int .i64 (cmpK xs ys)) ∧ w' = w := by
 have hf71 : Fence.wide.fn 71 := trivial
 refine callsIn_of_wp Tryd.func55 rfl trivial ?_ rfl
 simp only [Tryd.ntmps55, List.size_toArray, List.length_cons, List.length_nil, Nat.reduceAdd, Nat.reduceSub, Array.replicate_succ, Array.replicate_zero, List.push_toArray, List.append_toArray, List.nil_append, List.cons_append]
 gi_wp2
 gi_loopw [11] (fun i wr => ∃ k : Nat, k ≤ N ∧ i = .int .i64 k ∧ (∀ j, j < k → xs[j]? = ys[j]?) ∧ wr = w) (fun i _ => N - (RowKit.intOf i).toNat)
 case atStart => exact ⟨0, by omega, rfl, fun j hj => by omega, rfl⟩
 case round =>
  obtain ⟨k, hk, rfl, he, rfl⟩ := hrel
  by_cases hlt : k < N
  · have hlti : ((k : Int)) < (N : Int) := by omega
    have hnl : ¬ ((N : Int) ≤ (k : Int)) := by omega
    have w1 : IntKind.i64.wrap ((k : Int) + 1) = (k : Int) + 1 := by rw [IntKind.wrap_i64]; omega
    obtain ⟨ad, rfl, hc1⟩ := hx k (by omega)
    obtain ⟨bd, rfl, hc2⟩ := hy k (by omega)
    have hat := cmpK_at (hxl.trans hyl.symm) (k := k) (by omega) he
    have hen : xs[k]?.getD 0 = ys[k]?.getD 0 → xs[k]? = ys[k]? := fun h => by
     rw [List.getElem?_eq_getElem (show k < xs.length by omega), List.getElem?_eq_getElem (show k < ys.length by omega)] at h ⊢
     simpa using h
    generalize xs[k]?.getD 0 = x at hc1 hat hen
    generalize ys[k]?.getD 0 = y at hc2 hat hen
    by_cases hz : cmpN x y = 0
    · gi_wp2_with (gi_at_call 71; refine (cmp_in _ _ _ _).mono ?_; rintro e w' ⟨rfl, rfl⟩; rw [hz])
      go_roundw
      case rel =>
       refine ⟨k + 1, by omega, by simp, ?_, trivial⟩
       intro j hj
       rcases Nat.lt_or_ge j k with h | h
       · exact he j h
       · obtain rfl : j = k := by omega
         exact hen (cmpN_zero hz)
      case measure => simp [RowKit.intOf]; omega
    · have hat := hat hz
      obtain ⟨c0, hc0⟩ : ∃ c0, cmpN x y = c0 := ⟨_, rfl⟩
      rw [hc0] at hz hat
      have hb : (c0 != 0) = true := by simpa using hz
      gi_wp2_with (gi_at_call 71; refine (cmp_in _ _ _ _).mono ?_; rintro e w' ⟨rfl, rfl⟩; rw [hc0])
      go_ret
      refine ⟨?_, rfl⟩
      show Ending.returned (.int .i64 c0) = _
      rw [hat]
  · obtain rfl : k = N := by omega
    have hz := cmpK_same (hxl.trans hyl.symm) (fun j hj => he j (by omega))
    gi_wp2
    go_ret
    rw [hz]
    exact ⟨rfl, rfl⟩
abbrev Key32 : Type := {l : List Int // l.length = 32}
instance : Inhabited Key32 := ⟨⟨List.replicate 32 0, by simp⟩⟩
def encK (x : Key32) : List Value := x.1.map (Value.int .u8)
theorem encK_len (x : Key32) : (encK x).length = 32 := by simp [encK, x.2]
theorem bys_new {W : World} {b : Nat} {x : Key32} {T : TypeId} (h : W.heap[b]? = some (.cells (encK x).toArray T (0, 0))) : Bys W (some ⟨b, 0, none⟩) x.1 := fun i hi => ⟨_, rfl, by
 rw [Addr.add_mid]
 simp only [World.cell?, Nat.zero_add, h]
 simp [encK, hi]⟩
set_option maxRecDepth 100000 in
set_option maxHeartbeats 4000000 in
theorem keyCmp_in (x y : Key32) (W : World) : CallsIn Fence.wide 3 Tryd.prog 54 #[.agg (encK x).toArray, .agg (encK y).toArray] W fun e w' => e = .returned (.int .i64 (cmpK x.1 y.1)) ∧ ∃ q os', w' = Sort.grow (W.drewN q) os' := by
 have hf55 : Fence.wide.fn 55 := trivial
 have hx1 : (encK x).toArray.size = 32 := by simp [encK_len]
 have hy1 : (encK y).toArray.size = 32 := by simp [encK_len]
 refine callsIn_of_wp Tryd.func54 rfl trivial ?_ rfl
 simp only [Tryd.ntmps54, List.size_toArray, List.length_cons, List.length_nil, Nat.reduceAdd, Nat.reduceSub, Array.replicate_succ, Array.replicate_zero, List.push_toArray, List.append_toArray, List.nil_append, List.cons_append]
 gi_wp2
 obtain ⟨W2, hW2⟩ : ∃ W2, ((W.alloc (Obj.cells (encK x).toArray 29)).alloc (Obj.cells (encK y).toArray 29)) = W2 := ⟨_, rfl⟩
 have k1 : W2.heap[W.heap.size]? = some (.cells (encK x).toArray 29 (0, 0)) := by
  rw [← hW2]; exact (Below.heap_alloc _ _ _ (by simp)).trans (World.alloc_heap_new W _)
 have k2 : W2.heap[W.heap.size + 1]? = some (.cells (encK y).toArray 29 (0, 0)) := by
  rw [← hW2]
  have := World.alloc_heap_new (W.alloc (Obj.cells (encK x).toArray 29)) (Obj.cells (encK y).toArray 29)
  rwa [World.size_alloc] at this
 rw [hW2]
 have hcmp : ∀ q, CallsIn Fence.wide 2 Tryd.prog 55 #[.slice (some ⟨W.heap.size, 0, none⟩) 32 32, .slice (some ⟨W.heap.size + 1, 0, none⟩) 32 32] (W2.drewN q) fun e w' => e = .returned (.int .i64 (cmpK x.1 y.1)) ∧ w' = W2.drewN q := fun q =>
  compare_in 0 _ _ 32 32 x.1 y.1 32 x.2 y.2 (by omega) _ (bys_new (W := W2.drewN q) k1) (bys_new (W := W2.drewN q) k2)
 obtain ⟨c0, hc0⟩ : ∃ c0, cmpK x.1 y.1 = c0 := ⟨_, rfl⟩
 rw [hc0] at hcmp
 clear hx1 hy1
 gi_quiet ((gi_at_call 55; exact CallsIn.quiet_of_same (hcmp _)))
 have hg : W2.drewN nq = Sort.grow (W.drewN nq) #[Obj.cells (encK x).toArray 29, Obj.cells (encK y).toArray 29] := by
  rw [← hW2, Sort.alloc_eq_grow, Sort.alloc_eq_grow, Sort.grow_grow]
  rfl
 rw [hg]
 clear hg hW2
 gi_wp2
 go_ret
 refine ⟨?_, nq, _, rfl⟩
 show Ending.returned (.int .i64 c0) = _
 rw [hc0]
end Go.Iw
