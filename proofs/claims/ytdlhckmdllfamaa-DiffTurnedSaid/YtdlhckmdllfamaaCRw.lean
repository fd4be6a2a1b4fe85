/- slices.Clone, Insert, Delete do what they should. -/
import Derived.Test.YtdlhckmdllfamaaCIns
import Derived.Test.YtdlhckmdllfamaaCDel
namespace Go.Iw
open Go.Iv Go.Proofs Go.RowKit Go.Lib
set_option linter.unusedVariables false
set_option linter.unusedSimpArgs false

set_option maxRecDepth 100000 in
theorem info29 : ∃ i z, Try.prog.info? 29 = some i ∧ i.zero = some z ∧ i.size = 10 ∧ i.bytes = 112 ∧ z.cells.size = 10 ∧ (∀ u ∈ (Builtin.zeroCells z.cells 1).toList, u.oneCell' = true) ∧ (Builtin.zeroCells z.cells 1).toList.length = 10 ∧ ∀ w, (zeroValue 29).run Try.prog w = .ok z w := by
  refine ⟨Try.t29, _, by kernel_rfl, rfl, rfl, rfl, rfl, ?_, by kernel_rfl, Try.zeroValue29⟩
  exact List.all_eq_true.1 (by kernel_rfl)

theorem clone_ok : RowOK Try.prog 54 .clone 29 := by
  refine ⟨⟨_, Try.func54, by kernel_rfl, by kernel_rfl⟩, fun i hi => ?_⟩
  obtain ⟨i', z, hi', hz, hs, hb, hzs, _, _, _⟩ := info29
  rw [hi] at hi'
  cases hi'
  intro w A n c news hl hA h1 hn hbt
  rcases hA with ⟨rfl, rfl⟩ | ⟨ad, rfl, hc⟩
  · have : news = [] := List.eq_nil_of_length_eq_zero (by simpa using hl)
    subst this
    refine (clone_nil 0 c w).mono ?_
    rintro e w' ⟨rfl, rfl⟩
    exact ⟨_, rfl, World.ownsRow_nil _ _ _ _, ⟨rfl, rfl, rfl, Nat.le_refl _, fun _ _ _ => rfl⟩, fun b hb => by simp [blk] at hb⟩
  · obtain ⟨v', w', hr, ho, hg, hbl⟩ := append_run (P := Try.prog) (w := w.alloc (.cells #[] 29)) (v := .slice (some ⟨w.heap.size, 0, none⟩) 0 0) (n := 0) (xs := []) (A := some ad) (k := n) (c := c) (news := news) (t := 25) (e := 29) 0 Try.underlying25 hi hz (by rw [hzs, hs]) (by omega)
      (World.ownsRow_made w #[] 0 (Nat.zero_le _) (Nat.zero_le _) (by simp)) hl (.inr ⟨ad, rfl, fun j u hu => Lib.cell?_alloc_some _ (hc j u hu)⟩) h1 (by simpa using hn) (by simpa using hbt)
    have hr' : ∀ ty, (Builtin.append_ #[25, 25] ty #[.slice (some ⟨w.heap.size, 0, none⟩) 0 0, .slice (some ad) n c]).run Try.prog (w.alloc (.cells #[] 29)) = .ok v' w' := fun ty => hr
    refine (clone_some ad n c w hr').mono ?_
    rintro e w1 ⟨rfl, rfl⟩
    refine ⟨_, rfl, by simpa using ho, ?_, ?_⟩
    · have h0 : w.grownBy (w.alloc (.cells #[] 29)) none := World.grownBy_alloc w _ _
      refine ⟨hg.os.trans h0.os, hg.tape.trans h0.tape, hg.output.trans h0.output, Nat.le_trans h0.size hg.size, fun k hk _ => ?_⟩
      rw [hg.block k (Nat.lt_of_lt_of_le hk h0.size) (by simp [Value.ownBlock]; omega), h0.block k hk (by simp)]
    · intro b hb'
      rcases hbl b hb' with h | h
      · simp [blk] at h; omega
      · have : (w.alloc (.cells #[] 29)).heap.size = w.heap.size + 1 := Array.size_push ..
        omega

theorem ins_ok : RowOK Try.prog 61 .insert 29 := by
  refine ⟨⟨_, Try.func61, by kernel_rfl, by kernel_rfl⟩, fun i hi => ?_⟩
  obtain ⟨i', z, hi', hz, hs, hb, hzs, hz1, hzl, hzv⟩ := info29
  rw [hi] at hi'
  cases hi'
  intro w v u n j inner x hown howny hne h1 h1x hj hn hbt
  have hnc : ∀ {g cap : Nat} {cur : Array Value}, v = .slice (some ⟨g, 0, none⟩) n cap → cap ≤ maxLen → cap ≤ 9223372036854775807 := fun _ h => by simp only [maxLen] at h; omega
  -- what is put in
  obtain ⟨gb, vc, vcur, rfl, _, hgb, hvc, _, hvs, hvt⟩ : ∃ gb cap cur, u = .slice (some ⟨gb, 0, none⟩) 1 cap ∧ 0 ≤ gb ∧ w.heap[gb]? = some (.cells cur 29 (0, 0)) ∧ 1 ≤ cap ∧ cap ≤ maxLen ∧ cur.size = cap * i.size ∧ cur.toList.take (1 * i.size) = x := by
    rcases howny.2 with ⟨_, h⟩ | h
    · omega
    · exact h
  have hxl : x.length = 10 := by have := howny.1; omega
  have hxc : ∀ (k : Nat) (y : Value), x[k]? = some y → vcur[k]? = some y := fun k y hk => by
    rw [← hvt, List.getElem?_take] at hk
    split at hk
    · simpa using hk
    · cases hk
  by_cases hjn : j = n
  · subst hjn
    have hcell : ∀ (k : Nat) (y : Value), x[k]? = some y → w.cell? ((⟨gb, 0, none⟩ : Addr).add k) = some y := fun k y hk => by
      rw [Addr.add_lit]
      simp [World.cell?, hgb]
      exact hxc k y hk
    obtain ⟨v', w', hr, ho, hg, hbl⟩ := append_run (P := Try.prog) (w := w) (v := v) (n := j) (xs := inner) (A := some ⟨gb, 0, none⟩) (k := 1) (c := vc) (news := x) (t := 25) (e := 29) 0 Try.underlying25 hi hz (by rw [hzs, hs]) (by omega)
      hown (by omega) (.inr ⟨_, rfl, hcell⟩) h1x (by simp only [maxLen]; omega) hbt
    have hr' : ∀ ty, (Builtin.append_ #[25, 23] ty #[v, .slice (some ⟨gb, 0, none⟩) 1 vc]).run Try.prog w = .ok v' w' := fun ty => by
      rw [append_types w Try.underlying25 Try.underlying23 hi]; exact hr
    have hw : ∃ c, j ≤ c ∧ c ≤ 9223372036854775807 ∧ (v = .slice none 0 0 ∧ j = 0 ∧ c = 0 ∨ ∃ g, v = .slice (some ⟨g, 0, none⟩) j c) := by
      rcases hown.2 with ⟨rfl, rfl⟩ | ⟨g, cap, cur, rfl, _, _, hc1, hc2, _⟩
      · exact ⟨0, Nat.le_refl _, by omega, .inl ⟨rfl, rfl, rfl⟩⟩
      · exact ⟨cap, hc1, by simp only [maxLen] at hc2; omega, .inr ⟨g, rfl⟩⟩
    obtain ⟨c, hc1, hc2, hv⟩ := hw
    refine (ins_end v j c gb vc w hv hc1 hc2 hr').mono ?_
    rintro e w1 ⟨rfl, rfl⟩
    refine ⟨_, rfl, ?_, hg, hbl⟩
    have hil := hown.1
    rw [List.take_of_length_le (by omega), List.drop_eq_nil_of_le (by omega), List.append_nil]
    exact ho
  · have hjn : j < n := by omega
    obtain ⟨g, c, cur, rfl, _, hg, hc1, hc2, hcs, hct⟩ : ∃ g cap cur, v = .slice (some ⟨g, 0, none⟩) n cap ∧ 0 ≤ g ∧ w.heap[g]? = some (.cells cur 29 (0, 0)) ∧ n ≤ cap ∧ cap ≤ maxLen ∧ cur.size = cap * i.size ∧ cur.toList.take (n * i.size) = inner := by
      rcases hown.2 with ⟨_, h⟩ | h
      · omega
      · exact h
    have hs' := hs
    rw [hs] at hcs hct ⊢
    simp only [maxLen] at hc2
    have hgl : g < w.heap.size := (Array.getElem?_eq_some_iff.1 hg).1
    have hbg : gb ≠ g := by
      rintro rfl
      exact hne gb rfl rfl
    have hil : inner.length = n * 10 := by have := hown.1; rw [hs'] at this; exact this
    by_cases hroom : n + 1 ≤ c
    · refine (ins_room g n c j gb vc cur vcur x w hjn hroom (by omega) hg hcs hbg hgb hxc hxl (by rw [hct]; intro y hy; exact h1 y (List.mem_of_mem_drop hy)) h1x).mono ?_
      rintro e w1 ⟨rfl, rfl⟩
      have hw1 : (j + 1) * 10 + ((cur.toList.take (n * 10)).drop (j * 10)).length ≤ cur.size := by simp; omega
      have hw2 : j * 10 + x.length ≤ (wr cur ((j + 1) * 10) ((cur.toList.take (n * 10)).drop (j * 10))).size := by rw [wr_size hw1]; omega
      refine ⟨_, rfl, ⟨by simp; omega, .inr ⟨g, c, _, rfl, Nat.zero_le _, setRow_heap _ g _ _ 29 _ (setRow_heap w.drew g cur _ 29 _ hg), hroom, by simp only [maxLen]; omega, by rw [wr_size hw2, wr_size hw1, hcs], ?_⟩⟩, ?_, fun b hb => .inl hb⟩
      · rw [hct]
        exact room_cells hjn hxl hct (by omega)
      · refine ⟨rfl, rfl, rfl, by simp, fun k hk hne => ?_⟩
        have hne : k ≠ g := fun e => hne (by rw [e]; rfl)
        rw [setRow_other _ g k _ hne, setRow_other _ g k _ hne]
        rfl
    · have hroom : c < n + 1 := by omega
      have hin : ∀ (k : Nat) (y : Value), inner[k]? = some y → w.cell? ⟨g, k, none⟩ = some y := fun k y hk => by
        rw [← hct, List.getElem?_take] at hk
        split at hk
        · simp [World.cell?, hg]
          simpa using hk
        · cases hk
      have hold : (Builtin.firstCells i.size j (.slice (some ⟨g, 0, none⟩) j c)).run Try.prog w.drew = .ok (inner.take (j * 10)).toArray w.drew := by
        rw [hs']
        exact run_firstCells_some (P := Try.prog) w.drew 10 j ⟨g, 0, none⟩ j c (inner.take (j * 10)) (by rw [List.length_take]; omega) (fun k y hk => by
          rw [Addr.add_lit, Nat.zero_add]
          rw [List.getElem?_take] at hk
          split at hk
          · exact hin k y hk
          · cases hk)
      obtain ⟨G, hG⟩ : ∃ G, G = grownCap w (n + 1) c 29 := ⟨_, rfl⟩
      have hGn : n + 1 ≤ G := by rw [hG]; exact grownCap_ge w _ _ _
      have hG63 : G ≤ maxLen := by rw [hG]; exact grownCap_le_maxLen w (n + 1) c 29 (by simp only [maxLen]; omega)
      have hjk : j + (n + 1 - j) = n + 1 := by omega
      have hrz : ∀ ty, (Builtin.append_ #[25, 3] ty #[.slice (some ⟨g, 0, none⟩) j c, .int .i64 ((n : Int) + 1 - (j : Int))]).run Try.prog w =
          .ok (.slice (some ⟨w.heap.size, 0, none⟩) (n + 1) G) (w.drew.alloc (.cells ((inner.take (j * 10)).toArray ++ Builtin.zeroCells z.cells (n + 1 - j) ++ Builtin.zeroCells z.cells (G - (n + 1))) 29)) := fun ty => by
        have h := Lib.run_append_grow_zeros (P := Try.prog) w 25 3 ty 29 i z .i64 .i64 Try.underlying25 Try.underlying3 hi hz (some ⟨g, 0, none⟩) j c (inner.take (j * 10)) hold (n + 1 - j) (by omega) (by omega) (by omega) (by omega) (by rw [hb] at hbt ⊢; omega) (by rw [hb] at hbt ⊢; rw [hjk]; exact growslice_fits (by omega) hbt)
        rw [hjk, ← hG] at h
        rw [show (n : Int) + 1 - (j : Int) = ((n + 1 - j : Nat) : Int) by omega]
        exact h
      have hRs : ((inner.take (j * 10)).toArray ++ Builtin.zeroCells z.cells (n + 1 - j) ++ Builtin.zeroCells z.cells (G - (n + 1))).size = G * 10 := by
        simp only [Array.size_append, size_zeroCells, hzs, List.size_toArray, List.length_take]
        omega
      simp only [maxLen] at hG63
      refine (ins_grow g n c j gb vc G vcur _ inner x w _ hjn hroom hc1 (by omega) hGn (by omega) hgl hin hil hgb hxc hxl (fun y hy => h1 y (List.mem_of_mem_drop hy)) h1x rfl hRs hrz).mono ?_
      rintro e w1 ⟨rfl, rfl⟩
      generalize hROW : (inner.take (j * 10)).toArray ++ Builtin.zeroCells z.cells (n + 1 - j) ++ Builtin.zeroCells z.cells (G - (n + 1)) = ROW at hRs ⊢
      have hw1 : j * 10 + x.length ≤ ROW.size := by omega
      have hw2 : (j + 1) * 10 + (inner.drop (j * 10)).length ≤ (wr ROW (j * 10) x).size := by rw [wr_size hw1]; simp; omega
      have hN : (w.drew.alloc (.cells ROW 29)).heap[w.heap.size]? = some (.cells ROW 29 (0, 0)) := heap_alloc_new w.drew _
      refine ⟨_, rfl, ⟨by simp; omega, .inr ⟨w.heap.size, G, _, rfl, Nat.zero_le _, setRow_heap _ w.heap.size _ _ 29 _ (show (World.drew _).heap[w.heap.size]? = _ from setRow_heap _ w.heap.size ROW _ 29 _ hN), hGn, by simp only [maxLen]; omega, by rw [wr_size hw2, wr_size hw1, hRs], ?_⟩⟩, ?_, fun b hb => .inr ?_⟩
      · refine grow_cells hjn hxl hil ?_ (by omega)
        rw [← hROW]
        simp
        rw [List.take_append_of_le_length (by simp; omega)]
        exact List.take_of_length_le (by simp; omega)
      · refine ⟨rfl, rfl, rfl, ?_, fun k hk hne => ?_⟩
        · have : (w.drew.alloc (.cells ROW 29)).heap.size = w.heap.size + 1 := Array.size_push ..
          simp
        · rw [setRow_other _ w.heap.size k _ (by omega)]
          show (World.setRow _ _ _).heap[k]? = _
          rw [setRow_other _ w.heap.size k _ (by omega)]
          exact heap_alloc_old w.drew _ hk
      · simp [blk] at hb; omega

theorem del_ok : RowOK Try.prog 62 .delete 29 := by
  refine ⟨⟨_, Try.func62, by kernel_rfl, by kernel_rfl⟩, fun i hi => ?_⟩
  obtain ⟨i', z, hi', hz, hs, hb, hzs, hz1, hzl, hzv⟩ := info29
  rw [hi] at hi'
  cases hi'
  intro w v n j inner hown h1 hj
  obtain ⟨g, c, cur, rfl, _, hg, hc1, hc2, hcs, hct⟩ : ∃ g cap cur, v = .slice (some ⟨g, 0, none⟩) n cap ∧ 0 ≤ g ∧ w.heap[g]? = some (.cells cur 29 (0, 0)) ∧ n ≤ cap ∧ cap ≤ maxLen ∧ cur.size = cap * i.size ∧ cur.toList.take (n * i.size) = inner := by
    rcases hown.2 with ⟨_, h⟩ | h
    · omega
    · exact h
  have hs' := hs
  rw [hs] at hcs hct ⊢
  have hil : inner.length = n * 10 := by rw [← hct]; simp; omega
  simp only [maxLen] at hc2
  have hm : j + (n - (j + 1)) = n - 1 := by omega
  obtain ⟨A, hA⟩ : ∃ A : Addr, (if c = j + 1 then (some (⟨g, 0, none⟩ : Addr)) else some ⟨g, (j + 1) * 10, none⟩) = some A := by split <;> exact ⟨_, rfl⟩
  have hdl : (inner.drop ((j + 1) * 10)).length = (n - (j + 1)) * 10 := by simp [hil]; omega
  have hsrc : ∀ (k : Nat) (y : Value), (inner.drop ((j + 1) * 10))[k]? = some y → w.drew.cell? (A.add k) = some y := fun k y hk => by
    rw [List.getElem?_drop, ← hct, List.getElem?_take] at hk
    split at hk
    · rename_i hlt
      split at hA
      · omega
      · cases hA
        rw [Addr.add_lit]
        show w.cell? _ = _
        simp [World.cell?, hg]
        simpa using hk
    · cases hk
  have hw1 : j * 10 + (inner.drop ((j + 1) * 10)).length ≤ cur.size := by rw [hdl]; omega
  have hap : ∀ ty, (Builtin.append_ #[25, 25] ty #[.slice (some ⟨g, 0, none⟩) j c, .slice (some A) (n - (j + 1)) (c - (j + 1))]).run Try.prog w.drew = .ok (.slice (some ⟨g, 0, none⟩) (n - 1) c) (w.drew.setRow g (wr cur (j * 10) (inner.drop ((j + 1) * 10)))) := fun ty => by
    have h := run_append_room (P := Try.prog) w.drew 25 ty 29 i Try.underlying25 hi g j c cur hg A (n - (j + 1)) (c - (j + 1)) (inner.drop ((j + 1) * 10)) (by rw [hdl, hs']) hsrc (fun y hy => h1 y (List.mem_of_mem_drop hy)) (by omega) (by rw [hs']; exact hw1)
    rw [hm, hs'] at h
    exact h
  have hg1 : (w.drew.setRow g (wr cur (j * 10) (inner.drop ((j + 1) * 10)))).heap[g]? = some (.cells (wr cur (j * 10) (inner.drop ((j + 1) * 10))) 29 (0, 0)) := setRow_heap w.drew g cur _ 29 _ hg
  have hw2 : (n - 1) * 10 + (Builtin.zeroCells z.cells 1).toList.length ≤ (wr cur (j * 10) (inner.drop ((j + 1) * 10))).size := by rw [wr_size hw1, hzl]; omega
  have hcl := fun ty => clear_run (P := Try.prog) _ 25 29 ty z Try.underlying25 hzv g ((n - 1) * 10) 1 (c - (n - 1)) _ 29 hg1 (by omega) hw2 hz1
  refine (del_walk g n c j (n - 1) A _ _ w hj hm (by omega) hc1 (by omega) hA hap hcl).mono ?_
  rintro e w1 ⟨rfl, rfl⟩
  refine ⟨_, rfl, ⟨by simp [hil]; omega, .inr ⟨g, c, _, rfl, Nat.zero_le _, setRow_heap _ g _ _ 29 _ hg1, by omega, by simp only [maxLen]; omega, by rw [wr_size hw2, wr_size hw1, hcs], ?_⟩⟩, ?_, fun b hb => .inl hb⟩
  · exact del_cells hj (by omega) hct hzl (by omega)
  · refine ⟨rfl, rfl, rfl, by simp, fun k hk hne => ?_⟩
    have hne : k ≠ g := fun e => hne (by rw [e]; rfl)
    rw [setRow_other _ g k _ hne, setRow_other _ g k _ hne]
    rfl

def rowL : List (Nat × RowF × Nat) := [(54, .clone, 29), (61, .insert, 29), (62, .delete, 29)]
theorem rows : AllC (fun p => RowOK Try.prog p.1 p.2.1 p.2.2) rowL := ⟨clone_ok, ins_ok, del_ok, trivial⟩
end Go.Iw
