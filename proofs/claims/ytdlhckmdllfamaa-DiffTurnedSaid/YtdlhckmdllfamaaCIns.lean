/- slices.Insert, of one element, into a row of the call's own. -/
import Derived.Test.YtdlhckmdllfamaaCInA
import Derived.Test.YtdlhckmdllfamaaProg
namespace Go.Iw
open Go.Iv Go.Proofs Go.RowKit Go.Lib
set_option linter.unusedVariables false
set_option linter.unusedSimpArgs false

theorem sz29 : (Try.prog.info? 29).map (·.size) = some 10 := by kernel_rfl

set_option maxHeartbeats 4000000 in
set_option maxRecDepth 100000 in
theorem ins_room (g n c i vb vc : Nat) (cur vcur : Array Value) (x : List Value) (w : World) (hi : i < n) (hroom : n + 1 ≤ c) (hc63 : c ≤ 9223372036854775807)
    (hg : w.heap[g]? = some (.cells cur 29 (0, 0))) (hcs : cur.size = c * 10) (hvb : vb ≠ g) (hv : w.heap[vb]? = some (.cells vcur 29 (0, 0))) (hx : ∀ (j : Nat) (u : Value), x[j]? = some u → vcur[j]? = some u) (hxl : x.length = 10)
    (h1c : ∀ v ∈ (cur.toList.take (n * 10)).drop (i * 10), v.oneCell' = true) (h1x : ∀ v ∈ x, v.oneCell' = true) :
    Calls Try.prog 61 #[.slice (some ⟨g, 0, none⟩) n c, .int .i64 i, .slice (some ⟨vb, 0, none⟩) 1 vc] w fun e w' =>
      e = .returned (.slice (some ⟨g, 0, none⟩) (n + 1) c) ∧ w' = (w.drew.setRow g (wr cur ((i + 1) * 10) ((cur.toList.take (n * 10)).drop (i * 10)))).setRow g (wr (wr cur ((i + 1) * 10) ((cur.toList.take (n * 10)).drop (i * 10))) (i * 10) x) := by
  have hz2 : ¬ ((i : Int) = (n : Int)) := by omega
  have hov : ∀ lb cb, (callFunc 70 #[.slice (some ⟨vb, 0, none⟩) 1 vc, .slice (some ⟨g, (i + 1) * 10, none⟩) lb cb]).run Try.prog w = .ok (.value (.bool false)) w := fun lb cb => by
    rw [run_callFunc_extern Try.func70 (by kernel_rfl) (by kernel_rfl) (by kernel_rfl) (e := Extern.SlicesOverlaps.overlaps #[23, 23] #[4]) (by kernel_rfl),
      Lib.run_overlaps_apart w 23 4 29 Try.underlying23 10 Try.sizeOf29 ⟨vb, 0, none⟩ ⟨g, (i + 1) * 10, none⟩ 1 vc lb cb hvb 29 29 vcur.size cur.size (by simp [World.shape?, hv]) (by simp [World.shape?, hg]) (by rw [hcs]; omega) (by simp [World.frozen?, hv]) (by simp [World.frozen?, hv])]
    rfl
  have hw1 : IntKind.i64.wrap ((i : Int) + 1) = (i : Int) + 1 := by rw [IntKind.wrap_i64]; omega
  have hb1 : (0 : Int) ≤ (i : Int) + 1 := by omega
  have hin : i ≤ n := by omega
  have htn : ((i : Int) + 1).toNat = i + 1 := by omega
  have hb2 : ¬ (c = i + 1) := by omega
  have hb3 : (i : Int) ≤ (n : Int) := by omega
  have hb5 : (i : Int) ≤ (n : Int) + 1 := by omega
  have mixed : Try.prog.follows .mixedOrders = true := by kernel_rfl
  have hb4 : ¬ (c = i) := by omega
  have hcp1 : ∀ ty dc sc, (Builtin.copy_ #[25, 25] ty #[.slice (some ⟨g, (i + 1) * 10, none⟩) (n - i) dc, .slice (some ⟨g, i * 10, none⟩) (n + 1 - i) sc]).run Try.prog w.drew = .ok (goInt ((n - i : Nat) : Int)) (w.drew.setRow g (wr cur ((i + 1) * 10) ((cur.toList.take (n * 10)).drop (i * 10)))) := fun ty dc sc =>
    copy_run w.drew 25 25 ty 29 10 g ((i + 1) * 10) (n - i) dc ⟨g, i * 10, none⟩ (n + 1 - i) sc (n - i) cur 29 _ Try.underlying25 sz29 hg (by simp only [Nat.min_def]; split <;> omega) (by simp; omega)
      (fun j v hj => by
        rw [Addr.add_lit]
        rw [List.getElem?_drop, List.getElem?_take] at hj
        split at hj
        · show w.cell? _ = _
          simp [World.cell?, hg]
          simpa using hj
        · cases hj)
      (by simp; omega) h1c
  obtain ⟨CUR, hCUR⟩ : ∃ CUR, CUR = wr cur ((i + 1) * 10) ((cur.toList.take (n * 10)).drop (i * 10)) := ⟨_, rfl⟩
  have hcs1 : CUR.size = c * 10 := by rw [hCUR, wr_size (by simp; omega), hcs]
  rw [← hCUR] at hcp1 ⊢
  have hcp2 : ∀ (W : World), W.heap[g]? = some (.cells CUR 29 (0, 0)) → W.heap[vb]? = some (.cells vcur 29 (0, 0)) → ∀ ty dc, (Builtin.copy_ #[25, 23] ty #[.slice (some ⟨g, i * 10, none⟩) (n + 1 - i) dc, .slice (some ⟨vb, 0, none⟩) 1 vc]).run Try.prog W = .ok (goInt 1) (W.setRow g (wr CUR (i * 10) x)) := fun W hW1 hW2 ty dc =>
    copy_run W 25 23 ty 29 10 g (i * 10) (n + 1 - i) dc ⟨vb, 0, none⟩ 1 vc 1 CUR 29 x Try.underlying25 sz29 hW1 (by simp only [Nat.min_def]; split <;> omega) (by rw [hxl])
      (fun j v hj => by
        rw [Addr.add_lit]
        simp [World.cell?, hW2]
        exact hx j v hj)
      (by omega) h1x
  have X : Hid (CUR = wr cur ((i + 1) * 10) ((cur.toList.take (n * 10)).drop (i * 10))) := hCUR
  clear hCUR
  have e1 : (w.drew.setRow g CUR).heap[g]? = some (.cells CUR 29 (0, 0)) := setRow_heap w.drew g cur CUR 29 _ hg
  have e2 : (w.drew.setRow g CUR).heap[vb]? = some (.cells vcur 29 (0, 0)) := by rw [setRow_other w.drew g vb CUR hvb]; exact hv
  go_enter Try.func61, Try.ntmps61
  go_wp2_with (simp only [hov])
  go_region_law_o (refine step_copy_run rfl _ _ 25 25 rfl _ _ (by simp [Act.eval, Act.put]) (by simp [Act.eval, Act.put]) (hcp1 _ _ _) ?_)
  go_wp2_with (at_builtin; refine wpList_copy_run _ rfl _ _ 25 23 rfl _ _ rfl rfl (hcp2 _ e1 e2 _ _) ?_)
  go_ret
  exact ⟨rfl, rfl⟩

set_option maxHeartbeats 4000000 in
set_option maxRecDepth 100000 in
theorem ins_end (v : Value) (n c vb vc : Nat) (w : World) (hv : v = .slice none 0 0 ∧ n = 0 ∧ c = 0 ∨ ∃ g, v = .slice (some ⟨g, 0, none⟩) n c) (hnc : n ≤ c) (hc63 : c ≤ 9223372036854775807) {v' : Value} {w' : World}
    (hrun : ∀ ty, (Builtin.append_ #[25, 23] ty #[v, .slice (some ⟨vb, 0, none⟩) 1 vc]).run Try.prog w = .ok v' w') :
    Calls Try.prog 61 #[v, .int .i64 n, .slice (some ⟨vb, 0, none⟩) 1 vc] w fun e w1 => e = .returned v' ∧ w1 = w' := by
  have mixed : Try.prog.follows .mixedOrders = true := by kernel_rfl
  rcases hv with ⟨rfl, rfl, rfl⟩ | ⟨g, rfl⟩
  · go_enter Try.func61, Try.ntmps61
    go_wp2_with (at_builtin; refine Lib.wpList_append_run _ rfl _ _ _ _ rfl _ _ rfl rfl _ _ (hrun _) ?_)
    go_ret
    exact ⟨rfl, rfl⟩
  · go_enter Try.func61, Try.ntmps61
    go_wp2_with (at_builtin; refine Lib.wpList_append_run _ rfl _ _ _ _ rfl _ _ rfl rfl _ _ (hrun _) ?_)
    all_goals (go_ret; exact ⟨rfl, rfl⟩)

set_option maxHeartbeats 4000000 in
set_option maxRecDepth 100000 in
theorem ins_grow (g n c i vb vc G : Nat) (vcur ROW : Array Value) (inner x : List Value) (w W1 : World) (hi : i < n) (hroom : c < n + 1) (hnc : n ≤ c) (hc63 : c ≤ 9223372036854775806) (hG : n + 1 ≤ G) (hG63 : G ≤ 9223372036854775807)
    (hgl : g < w.heap.size) (hin : ∀ (j : Nat) (u : Value), inner[j]? = some u → w.cell? ⟨g, j, none⟩ = some u) (hil : inner.length = n * 10)
    (hv : w.heap[vb]? = some (.cells vcur 29 (0, 0))) (hx : ∀ (j : Nat) (u : Value), x[j]? = some u → vcur[j]? = some u) (hxl : x.length = 10)
    (h1c : ∀ v ∈ inner.drop (i * 10), v.oneCell' = true) (h1x : ∀ v ∈ x, v.oneCell' = true)
    (hW1 : W1 = w.drew.alloc (.cells ROW 29)) (hRs : ROW.size = G * 10)
    (hrz : ∀ ty, (Builtin.append_ #[25, 3] ty #[.slice (some ⟨g, 0, none⟩) i c, .int .i64 ((n : Int) + 1 - (i : Int))]).run Try.prog w = .ok (.slice (some ⟨w.heap.size, 0, none⟩) (n + 1) G) W1) :
    Calls Try.prog 61 #[.slice (some ⟨g, 0, none⟩) n c, .int .i64 i, .slice (some ⟨vb, 0, none⟩) 1 vc] w fun e w' =>
      e = .returned (.slice (some ⟨w.heap.size, 0, none⟩) (n + 1) G) ∧ w' = ((W1.setRow w.heap.size (wr ROW (i * 10) x)).drew).setRow w.heap.size (wr (wr ROW (i * 10) x) ((i + 1) * 10) (inner.drop (i * 10))) := by
  have hz2 : ¬ ((i : Int) = (n : Int)) := by omega
  have hw1 : IntKind.i64.wrap ((i : Int) + 1) = (i : Int) + 1 := by rw [IntKind.wrap_i64]; omega
  have hb1 : (0 : Int) ≤ (i : Int) + 1 := by omega
  have hin' : i ≤ n := by omega
  have htn : ((i : Int) + 1).toNat = i + 1 := by omega
  have hb3 : (i : Int) ≤ (n : Int) := by omega
  have hb5 : (i : Int) ≤ (n : Int) + 1 := by omega
  have hGi : ¬ (G = i) := by omega
  have hGim : ¬ (G = i + 1) := by omega
  have hci : ¬ (c = i) := by omega
  have mixed : Try.prog.follows .mixedOrders = true := by kernel_rfl
  have hvl : vb < w.heap.size := (Array.getElem?_eq_some_iff.1 hv).1
  have hN : W1.heap[w.heap.size]? = some (.cells ROW 29 (0, 0)) := by rw [hW1]; exact heap_alloc_new w.drew _
  have hO : ∀ k, k < w.heap.size → W1.heap[k]? = w.heap[k]? := fun k hk => by rw [hW1]; exact heap_alloc_old w.drew _ hk
  obtain ⟨R1, hR1⟩ : ∃ R1, R1 = wr ROW (i * 10) x := ⟨_, rfl⟩
  have hR1s : R1.size = G * 10 := by rw [hR1, wr_size (by omega), hRs]
  have hcpA : ∀ ty dc, (Builtin.copy_ #[25, 23] ty #[.slice (some ⟨w.heap.size, i * 10, none⟩) (n + 1 - i) dc, .slice (some ⟨vb, 0, none⟩) 1 vc]).run Try.prog W1 = .ok (goInt 1) (W1.setRow w.heap.size R1) := fun ty dc => by
    rw [hR1]
    exact copy_run W1 25 23 ty 29 10 w.heap.size (i * 10) (n + 1 - i) dc ⟨vb, 0, none⟩ 1 vc 1 ROW 29 x Try.underlying25 sz29 hN (by simp only [Nat.min_def]; split <;> omega) (by rw [hxl])
      (fun j v hj => by
        rw [Addr.add_lit]
        simp [World.cell?, hO _ hvl, hv]
        exact hx j v hj)
      (by omega) h1x
  have hN1 : (W1.setRow w.heap.size R1).drew.heap[w.heap.size]? = some (.cells R1 29 (0, 0)) := setRow_heap W1 _ ROW R1 29 _ hN
  have hO1 : (W1.setRow w.heap.size R1).drew.heap[g]? = w.heap[g]? := by
    show (W1.setRow w.heap.size R1).heap[g]? = _
    rw [setRow_other W1 _ _ R1 (by omega), hO _ hgl]
  have hcpB : ∀ ty dc sc, (Builtin.copy_ #[25, 25] ty #[.slice (some ⟨w.heap.size, (i + 1) * 10, none⟩) (n - i) dc, .slice (some ⟨g, i * 10, none⟩) (n - i) sc]).run Try.prog (W1.setRow w.heap.size R1).drew = .ok (goInt ((n - i : Nat) : Int)) ((W1.setRow w.heap.size R1).drew.setRow w.heap.size (wr R1 ((i + 1) * 10) (inner.drop (i * 10)))) := fun ty dc sc =>
    copy_run _ 25 25 ty 29 10 w.heap.size ((i + 1) * 10) (n - i) dc ⟨g, i * 10, none⟩ (n - i) sc (n - i) R1 29 _ Try.underlying25 sz29 hN1 (by simp only [Nat.min_def]; split <;> omega) (by simp; omega)
      (fun j v hj => by
        rw [Addr.add_lit]
        rw [List.getElem?_drop] at hj
        have := hin _ _ hj
        simp only [World.cell?, hO1]
        exact this)
      (by simp; omega) h1c
  have X : Hid (R1 = wr ROW (i * 10) x) := hR1
  have Y : Hid (W1 = w.drew.alloc (.cells ROW 29)) := hW1
  rw [← hR1]
  clear hR1 hW1 hN hO hN1 hO1 hin hx h1c h1x
  go_enter Try.func61, Try.ntmps61
  go_wp2_with (first
    | (at_builtin; refine Lib.wpList_append_run _ rfl _ _ _ _ rfl _ _ rfl rfl _ _ (hrz _) ?_)
    | (at_builtin; refine wpList_copy_run _ rfl _ _ 25 23 rfl _ _ rfl rfl (hcpA _ _) ?_))
  go_region_law_o (refine step_copy_run rfl _ _ 25 25 rfl (.slice (some ⟨w.heap.size, (i + 1) * 10, none⟩) (n - i) (G - (i + 1))) (.slice (some ⟨g, i * 10, none⟩) (n - i) (c - i)) (by simp [Act.eval, Act.put]) (by simp [Act.eval, Act.put]) (hcpB _ _ _) ?_)
  go_wp2
  go_ret
  exact ⟨rfl, rfl⟩
end Go.Iw
