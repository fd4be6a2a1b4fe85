/- chart.IDs: its contract. -/
import Derived.Test.YtdniiaomhojlhaaDId2
import Derived.Test.YtdniiaomhojlhaaIvH
namespace Go.Iw
open Go.Iv Go.Proofs Go.RowKit Go.Shelf
set_option linter.unusedVariables false
set_option linter.unusedSimpArgs false

section
variable (A : Option Addr) (cap : Nat) (ls : List (List Elem)) (hreach : (ls.map List.length).sum * 8 ≤ 70368744177664) (hll : ls.length ≤ 1000000000000) (w : World) (n₀ : Nat) (hn₀ : n₀ ≤ w.heap.size)
set_option maxHeartbeats 1000000 in
theorem idCollect (Bs' : Nat) (hreach : (ls.map List.length).sum * 8 ≤ 70368744177664) (hll : ls.length ≤ 1000000000000) (hn₀ : n₀ ≤ w.heap.size) (hBs : w.heap[Bs']? = some (.cells #[.slice A ls.length cap] 50 (0, 0))) (hI : Chs n₀ w A ls) :
    CallsIn Fence.wide 3 Try.prog 50 #[.func (.func 71) #[] #[.pointer (some ⟨Bs', 0, none⟩)]] w fun e w' => ∃ v, e = .returned v ∧ w'.ownsRow w.heap.size 3 1 v (sortI (nums ls ls.length)).length ((sortI (nums ls ls.length)).map (Value.int .i64)) ∧ Below w.heap.size w w' := by
  have hf70 : Fence.wide.fn 70 := trivial
  refine callsIn_of_wp Try.func50 rfl trivial ?_ rfl
  simp only [Try.ntmps50, List.size_toArray, List.length_cons, List.length_nil, Nat.reduceAdd, Nat.reduceSub, Array.replicate_succ, Array.replicate_zero, List.push_toArray, List.append_toArray, List.nil_append, List.cons_append]
  gi_wp2_with (gi_at_call 70; refine (idApp A cap ls hreach hll w n₀ hn₀ Bs' hBs hI).mono ?_; rintro e w' ⟨v, rfl, hrow, hb⟩)
  go_ret
  exact ⟨v, rfl, hrow, hb⟩
set_option maxHeartbeats 1000000 in
theorem idSeq (len : Nat) : CallsIn Fence.wide 3 Try.prog 51 #[.slice A len cap] w fun e w' => e = .returned (.func (.func 71) #[] #[.pointer (some ⟨w.heap.size, 0, none⟩)]) ∧ w' = w.alloc (.cells #[.slice A len cap] 50) := by
  refine callsIn_of_wp Try.func51 rfl trivial ?_ rfl
  simp only [Try.ntmps51, List.size_toArray, List.length_cons, List.length_nil, Nat.reduceAdd, Nat.reduceSub, Array.replicate_succ, Array.replicate_zero, List.push_toArray, List.append_toArray, List.nil_append, List.cons_append]
  gi_wp2
  go_ret
  exact ⟨rfl, rfl⟩
set_option maxHeartbeats 1000000 in
theorem ids_in (hreach : (ls.map List.length).sum * 8 ≤ 70368744177664) (hll : ls.length ≤ 1000000000000) (hI : Chs w.heap.size w A ls) :
    CallsIn Fence.wide 4 Try.prog 38 #[.slice A ls.length cap] w fun e w' => ∃ v, e = .returned v ∧ w'.ownsRow w.heap.size 3 1 v (sortI (nums ls ls.length)).length ((sortI (nums ls ls.length)).map (Value.int .i64)) ∧ Below w.heap.size w w' := by
  have hf51 : Fence.wide.fn 51 := trivial
  have hf50 : Fence.wide.fn 50 := trivial
  have hb0 : Below w.heap.size w (w.alloc (.cells #[.slice A ls.length cap] 50)) := (Below.refl _ w).alloc (Nat.le_refl _) _
  refine callsIn_of_wp Try.func38 rfl trivial ?_ rfl
  simp only [Try.ntmps38, List.size_toArray, List.length_cons, List.length_nil, Nat.reduceAdd, Nat.reduceSub, Array.replicate_succ, Array.replicate_zero, List.push_toArray, List.append_toArray, List.nil_append, List.cons_append]
  gi_wp2_with (first | (gi_at_call 51; refine (idSeq A cap w ls.length).mono ?_; rintro e w' ⟨rfl, rfl⟩) | (gi_at_call 50; refine (idCollect A cap ls _ w.heap.size w.heap.size hreach hll (by simp) (World.alloc_heap_new w _) (hI.below hb0)).mono ?_; rintro e w' ⟨v, rfl, hrow, hb⟩))
  go_ret
  refine ⟨v, rfl, ?_, hb0.trans (hb.mono (by simp))⟩
  exact ⟨hrow.1, hrow.2.imp id fun ⟨g, cap, cur, e, hg, h⟩ => ⟨g, cap, cur, e, by simp at hg; omega, h⟩⟩
end

theorem nums_all (ls : List (List Elem)) : nums ls ls.length = (ls.flatMap id).map (·.1) := by simp [nums]
theorem repL_ints (w : World) (ok : Nat → Prop) : ∀ ys : List Int, RepL (Rep w ok (.int .i64)) ys (ys.map (Value.int .i64))
  | [] => rfl
  | y :: ys => ⟨[.int .i64 y], ys.map (Value.int .i64), rfl, rfl, repL_ints w ok ys⟩
theorem els_of {w : World} {ok : Nat → Prop} {n₀ : Nat} (hok : ∀ b, ok b → b < n₀) {l : List Elem} {cs : List Value} (h : Rep w ok (.sl 27 tElem) l cs) : ∃ A c, cs = [.slice A l.length c] ∧ Els n₀ w A l := by
  obtain ⟨A, c, inner, rfl, hle, hm, hl⟩ := h
  refine ⟨A, c, rfl, ?_⟩
  rcases hm with h | ⟨ad, e, hk, hc⟩
  · exact .inl h
  · refine .inr ⟨ad, e, hok _ hk, fun k hk' j u hu => hc _ _ ?_⟩
    obtain ⟨c1, d, e1, hcs, hlc, hr, hd⟩ := RepL.get (s := tElem.size) (fun x c r => Rep.len r) hl hk'
    have e2 : l[k]?.getD Elem.z = l[k] := by rw [List.getElem?_eq_getElem hk']; rfl
    rw [e2, ← rep_eqL hr] at hu
    have hj := (List.getElem?_eq_some_iff.1 hu).1
    have hs : tElem.size = 10 := rfl
    rw [hcs, show k * 10 + j = c1.length + j from by rw [hlc, hs], List.getElem?_append_left (by simp; omega), List.getElem?_append_right (by omega)]
    simpa using hu
theorem chs_of {w : World} {ok : Nat → Prop} {n₀ : Nat} (hok : ∀ b, ok b → b < n₀) {ls : List (List Elem)} {v : Value} (h : RepV w ok (.sl 24 (.sl 27 tElem)) ls v) : ∃ A c, v = .slice A ls.length c ∧ Chs n₀ w A ls := by
  obtain ⟨A, c, inner, rfl, hle, hm, hl⟩ := h.sl
  refine ⟨A, c, rfl, ?_⟩
  rcases hm with h | ⟨ad, e, hk, hc⟩
  · exact .inl h
  · refine .inr ⟨ad, e, hok _ hk, fun k hk' => ?_⟩
    obtain ⟨c1, d, e1, hcs, hlc, hr, hd⟩ := RepL.get (s := (Ty.sl 27 tElem).size) (fun x c r => Rep.len r) hl hk'
    have e2 : ls[k]?.getD [] = ls[k] := by rw [List.getElem?_eq_getElem hk']; rfl
    rw [e2]
    obtain ⟨A', c', rfl, hE⟩ := els_of hok hr
    refine ⟨A', c', hc _ _ ?_, hE⟩
    have hs : (Ty.sl 27 tElem).size = 1 := rfl
    have hk2 : c1.length = k := by rw [hlc, hs]; omega
    rw [hcs, List.append_assoc, List.getElem?_append_right (by omega), hk2, Nat.sub_self]
    rfl

def chart.IDs.F : List AV0 → (List AV0 → Prop) → Prop := byPs [.t (.sl 24 (.sl 27 tElem))] fun x J => chart.IDs x.1 fun r => J [.own 3 (.int .i64) r]
theorem chart.IDs.good : Go.Iv.Good Try.prog 38 chart.IDs.F where
  fn := ⟨_, Try.func38, by kernel_rfl, by kernel_rfl⟩
  det := by
    intro args J hF
    unfold chart.IDs.F byPs at hF
    split at hF
    · rename_i x hx
      obtain ⟨l, u⟩ := x
      have ha : args = [.tv (.sl 24 (.sl 27 tElem)) l] := psRd_out hx
      obtain ⟨⟨hb, hll⟩, hJ⟩ := hF
      refine ⟨_, hJ, ?_⟩
      rintro args' J' ⟨rfl, hJ'⟩ w ok vals hok hlen hvals
      subst ha
      obtain ⟨v, hv, hrv⟩ := hvals 0 _ rfl
      have rv : RepV w ok (.sl 24 (.sl 27 tElem)) l v := hrv [] (fun _ => undef)
      obtain ⟨A, c, rfl, hI⟩ := chs_of hok rv
      have hvs : vals.toArray = #[.slice A (List.length l) c] := by
        match vals, hlen, hv with
        | [_], _, hv => cases hv; rfl
      rw [hvs]
      have key := callsIn_wide.1 (ids_in A c l w hb hll hI)
      refine key.mono ?_
      rintro e W' ⟨v', rfl, hown, hbel⟩
      rw [nums_all] at hown
      have h0 : W'.ownsRow 0 3 1 v' (sortI ((List.flatMap id l).map (·.1))).length ((sortI ((List.flatMap id l).map (·.1))).map (Value.int .i64)) := ⟨hown.1, hown.2.imp id fun ⟨g, cap, cur, e, _, h⟩ => ⟨g, cap, cur, e, Nat.zero_le _, h⟩⟩
      refine ⟨_, [v'], v', ok, hJ', rfl, hbel, rfl, rfl, fun b hb => .inl hb, ?_, ?_⟩
      · intro i x hx
        match i, hx with
        | 0, hx => cases hx; exact ⟨v', rfl, fun _ _ => trivial⟩
      · intro i e t xs u hx hu
        match i, hx, hu with
        | 0, hx, hu =>
          cases hx; cases hu
          refine ⟨_, ?_, repL_ints W' ok _, fun b hb => ?_⟩
          · exact h0
          · rcases hown.2 with ⟨rfl, _⟩ | ⟨g, cap, cur, rfl, hg, _⟩
            · simp [blk] at hb
            · simp [blk] at hb
              subst hb
              exact ⟨fun h => by have := hok _ h; omega, hg⟩
    · exact hF.elim
end Go.Iw
