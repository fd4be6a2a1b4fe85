/- slices.Delete, of one element, of a row of the call's own; slices.Clone. -/
import Derived.Test.YtdlhckmdllfamaaCInA
import Derived.Test.YtdlhckmdllfamaaProg
namespace Go.Iw
open Go.Iv Go.Proofs Go.RowKit Go.Lib
set_option linter.unusedVariables false
set_option linter.unusedSimpArgs false

set_option maxHeartbeats 4000000 in
set_option maxRecDepth 100000 in
theorem del_walk (g n c i m : Nat) (A : Addr) (CUR CUR2 : Array Value) (w : World) (hi : i < n) (hm : i + (n - (i + 1)) = m) (hmn : n - m = 1) (hnc : n ≤ c) (hc63 : c ≤ 9223372036854775807)
    (hA : (if c = i + 1 then (some (⟨g, 0, none⟩ : Addr)) else some ⟨g, (i + 1) * 10, none⟩) = some A)
    (hap : ∀ ty, (Builtin.append_ #[25, 25] ty #[.slice (some ⟨g, 0, none⟩) i c, .slice (some A) (n - (i + 1)) (c - (i + 1))]).run Try.prog w.drew = .ok (.slice (some ⟨g, 0, none⟩) m c) (w.drew.setRow g CUR))
    (hcl : ∀ ty, (Builtin.clear_ #[25] ty #[.slice (some ⟨g, m * 10, none⟩) 1 (c - m)]).run Try.prog (w.drew.setRow g CUR) = .ok (.tuple #[]) ((w.drew.setRow g CUR).setRow g CUR2)) :
    Calls Try.prog 62 #[.slice (some ⟨g, 0, none⟩) n c, .int .i64 i, .int .i64 ((i : Int) + 1)] w fun e w' =>
      e = .returned (.slice (some ⟨g, 0, none⟩) m c) ∧ w' = (w.drew.setRow g CUR).setRow g CUR2 := by
  have mixed : Try.prog.follows .mixedOrders = true := by kernel_rfl
  have hz2 : ¬ ((i : Int) = (i : Int) + 1) := by omega
  have hb1 : (0 : Int) ≤ (i : Int) + 1 := by omega
  have hin : i ≤ n := by omega
  have hin1 : i + 1 ≤ n := by omega
  have htn : ((i : Int) + 1).toNat = i + 1 := by omega
  have hb3 : (i : Int) + 1 ≤ (n : Int) := by omega
  have hb5 : (i : Int) ≤ (i : Int) + 1 := by omega
  have hic : i ≤ c := by omega
  have hmc : m ≤ n := by omega
  have hmc2 : ¬ (c = m) := by omega
  go_enter Try.func62, Try.ntmps62
  go_wp2_with fail
  go_region_law_o (refine step_append_run rfl (.tmp 22) (.tmp 25) 25 25 rfl (.slice (some ⟨g, 0, none⟩) i c) (.slice (some A) (n - (i + 1)) (c - (i + 1))) (by simp [Act.eval, Act.put]) (by simp [Act.eval, Act.put]) (hap _) ?_)
  go_wp2
  go_ret
  exact ⟨rfl, rfl⟩

set_option maxHeartbeats 4000000 in
set_option maxRecDepth 100000 in
theorem clone_nil (n c : Nat) (w : World) : Calls Try.prog 54 #[.slice none n c] w fun e w' => e = .returned (.slice none 0 0) ∧ w' = w := by
  have mixed : Try.prog.follows .mixedOrders = true := by kernel_rfl
  have q22 : ∀ (w : World) (a : Option Addr) (n c n' c' : Nat), (binOp .eql 25 (.slice a n c) (.slice none n' c')).run Try.prog w = .ok (.bool a.isNone) w := fun w a n c n' c' => Lib.run_eql_slice_nil w _ _ a n c n' c' Try.underlying25
  go_enter Try.func54, Try.ntmps54
  go_wp2
  go_ret
  exact ⟨rfl, rfl⟩

set_option maxHeartbeats 4000000 in
set_option maxRecDepth 100000 in
theorem clone_some (a : Addr) (n c : Nat) (w : World) {v' : Value} {w' : World}
    (hrun : ∀ ty, (Builtin.append_ #[25, 25] ty #[.slice (some ⟨w.heap.size, 0, none⟩) 0 0, .slice (some a) n c]).run Try.prog (w.alloc (.cells #[] 29)) = .ok v' w') :
    Calls Try.prog 54 #[.slice (some a) n c] w fun e w1 => e = .returned v' ∧ w1 = w' := by
  have mixed : Try.prog.follows .mixedOrders = true := by kernel_rfl
  have q22 : ∀ (w : World) (a : Option Addr) (n c n' c' : Nat), (binOp .eql 25 (.slice a n c) (.slice none n' c')).run Try.prog w = .ok (.bool a.isNone) w := fun w a n c n' c' => Lib.run_eql_slice_nil w _ _ a n c n' c' Try.underlying25
  obtain ⟨b, o, sp⟩ := a
  go_enter Try.func54, Try.ntmps54
  go_wp2_with (at_builtin; refine Lib.wpList_append_run _ rfl _ _ _ _ rfl _ _ rfl rfl _ _ (hrun _) ?_)
  go_ret
  exact ⟨rfl, rfl⟩
end Go.Iw
