/- What a row's laid table gives: the table stands where the machine looks for it. -/
import Derived.Test.YtecohedcbnfibaaDoorYBs
import Derived.Test.YtecohedcbnfibaaDoorRows
import Derived.ProofKit
import Derived.LaidMore
import Derived.OpenShut
import Derived.Stop.Joined
namespace Go.Iw
open Go.Iv Go.Proofs Go.Proofs.YtecohedcbnfibaaDoor Go.ChangeShapes Go.WideShapes Go.ChangeAt Go.RowKit
set_option linter.unusedVariables false
abbrev laidL : List (String × DataW Unit) := [("interleaf/check.lines", Rows.laid_interleaf_check_lines)]
theorem gLines : Tryd.prog.globalNamed "interleaf/check.lines" = some 1 := by kernel_rfl
theorem tLines : (Tryd.prog.globals[1]?).map (·.type) = some 126 := by kernel_rfl
theorem uLines : Tryd.prog.underlying 126 = some (.array 16 68) := by kernel_rfl
theorem uWord : Tryd.prog.underlying 68 = some (.int .u32) := by kernel_rfl
theorem door_met (os : Os) (args : Array Value) : laidMetH Tryd.prog laidL ((World.doorLaid Tryd.prog 400 os).forCall (fun _ _ => 0) ⟨#[], args, []⟩).memory :=
  laidMetH_of_parts3 (fuel := 8) (laidMet_of_run' 8 (by kernel_rfl) (by kernel_rfl)) (by kernel_rfl) (by kernel_rfl)

theorem of_laid {W : World} (h : laidMetH Tryd.prog laidL W) : GloW W (fun _ => False) := by
  rw [MakeChecks.laidMetH_plain _ _ _ (by kernel_rfl)] at h
  obtain ⟨ps, ⟨g0, t0, cs0, f0, p0, q0, hg0, ht0, hv0, hd0, _⟩, _⟩ := h
  obtain rfl := Option.some.inj (gLines.symm.trans hg0)
  obtain rfl := Option.some.inj (tLines.symm.trans ht0)
  obtain ⟨xs, m1, rfl, hx1, hlen, hn3, hel⟩ := DataW.trod_array uLines hd0
  have c3 : Tryd.prog.cellsOf 68 = 1 := by kernel_rfl
  have c24 : Tryd.prog.cellsOf 126 = 16 := by kernel_rfl
  rw [c3] at hel
  simp only [Prod.mk.injEq] at hx1
  have hcell : ∀ i : Nat, W.cell? ⟨1, i, none⟩ = cs0[i]? := World.var?_cell gLines hv0
  have key : ∀ (i : Nat) (n : Int), lines[i]? = some n → W.cell? ⟨1, i, none⟩ = some (.int .u32 n) := by
    intro i n hn
    have hi : i < 16 := by
      have := (List.getElem?_eq_some_iff.1 hn).1
      simpa [lines] using this
    have h0 := hel i hi
    have hxi : i < xs.length := by omega
    rw [List.getElem?_eq_getElem hxi] at h0
    obtain ⟨k, e1, e2, _⟩ := DataW.trod_int uWord h0
    have hk : (xs.map (·.1))[i]? = some (DataW.lit (.int .u32 k)) := by
      rw [List.getElem?_map, List.getElem?_eq_getElem hxi, e2]; rfl
    have hd : DataW.agg (xs.map (·.1)) = Rows.laid_interleaf_check_lines := hx1.1.symm
    have hd' : xs.map (·.1) = lines.map fun n => (DataW.lit (.int .u32 n) : DataW Unit) := by
      simp only [Rows.laid_interleaf_check_lines, DataW.agg.injEq] at hd
      rw [hd]; rfl
    rw [hd', List.getElem?_map, hn] at hk
    have hkn : n = k := by simpa using hk
    subst hkn
    rw [hcell i, ← Array.getElem?_toList]
    have : (cs0.toList.drop (i * 1)).take 1 = [.int .u32 n] := e1
    rw [Nat.mul_one] at this
    have h2 := congrArg (·[0]?) this
    simpa using h2
  intro p hp
  obtain rfl : p = (1, lines.map fun n => .int .u32 n) := by
    rcases List.mem_cons.1 hp with h | h
    · exact h
    · cases h
  have h1 := key 0 0 rfl
  refine ⟨?_, fun h => h, ?_⟩
  · apply Nat.lt_of_not_le
    intro hle
    simp [World.cell?, Array.getElem?_eq_none hle] at h1
  · intro i u hu
    rw [List.getElem?_map] at hu
    cases hl : lines[i]? with
    | none => rw [hl] at hu; cases hu
    | some n => rw [hl] at hu; cases hu; exact key i n hl
end Go.Iw
