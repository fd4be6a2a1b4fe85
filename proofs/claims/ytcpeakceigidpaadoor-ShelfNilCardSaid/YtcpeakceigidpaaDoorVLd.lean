/- What a row's laid tables give: they stand where the machine looks for them. -/
import Derived.Test.YtcpeakceigidpaaDoorVBs
import Derived.Test.YtcpeakceigidpaaDoorRows
import Derived.ProofKit
import Derived.LaidMore
import Derived.OpenShut
import Derived.Stop.Joined
set_option linter.all false
namespace Go.Iw
open Go.Iv Go.Proofs Go.Proofs.YtcpeakceigidpaaDoor Go.ChangeShapes Go.WideShapes Go.ChangeAt Go.RowKit
abbrev laidL : List (String × DataW Unit) := [("interleaf/check.lines", Rows.laid_interleaf_check_lines), ("interleaf/stamp.parts", Rows.laid_interleaf_stamp_parts), ("interleaf/stamp.first", Rows.laid_interleaf_stamp_first)]
theorem uWord : Tryd.prog.underlying 34 = some (.int .u32) := by kernel_rfl
set_option maxRecDepth 100000 in
theorem door_met (os : Os) (args : Array Value) : laidMetH Tryd.prog laidL ((World.doorLaid Tryd.prog 400 os).forCall (fun _ _ => 0) ⟨#[], args, []⟩).memory :=
 laidMetH_of_parts3 (fuel := 8) (laidMet_of_run' 8 (by kernel_rfl) (by kernel_rfl)) (by kernel_rfl) (by kernel_rfl)
theorem tab_of {W : World} {name : String} {g T n : Nat} {ns : List Int} {D : DataW Unit} (hg : Tryd.prog.globalNamed name = some g) (ht : (Tryd.prog.globals[g]?).map (·.type) = some T) (hu : Tryd.prog.underlying T = some (.array n 34)) (hn : ns.length = n) (hn0 : 0 < n) (hD : D = .agg (ns.map fun n => .lit (.int .u32 n)))
 {t0 : TypeId} {g0 : Nat} {cs0 : Array Value} {f0 : Nat} {p0 : List MemPlace}
 (hg0 : Tryd.prog.globalNamed name = some g0) (ht0 : (Tryd.prog.globals[g0]?).map (·.type) = some t0) (hv0 : W.var? Tryd.prog name = some cs0) (hd0 : DataW.trod (fun _ => ()) Tryd.prog W 0 (fun _ => true) false f0 t0 cs0.toList = some (D, p0)) :
 g < W.heap.size ∧ ∀ (i : Nat) (u : Value), (ns.map fun n => Value.int .u32 n)[i]? = some u → W.cell? ⟨g, i, none⟩ = some u := by
 obtain rfl := Option.some.inj (hg.symm.trans hg0)
 obtain rfl := Option.some.inj (ht.symm.trans ht0)
 obtain ⟨xs, m1, rfl, hx1, hlen, hn3, hel⟩ := DataW.trod_array hu hd0
 have c3 : Tryd.prog.cellsOf 34 = 1 := by kernel_rfl
 rw [c3] at hel
 simp only [Prod.mk.injEq] at hx1
 have hcell : ∀ i : Nat, W.cell? ⟨g, i, none⟩ = cs0[i]? := World.var?_cell hg hv0
 have key : ∀ (i : Nat) (z : Int), ns[i]? = some z → W.cell? ⟨g, i, none⟩ = some (.int .u32 z) := by
  intro i z hz
  have hi : i < n := by
   have := (List.getElem?_eq_some_iff.1 hz).1
   omega
  have h0 := hel i hi
  have hxi : i < xs.length := by omega
  rw [List.getElem?_eq_getElem hxi] at h0
  obtain ⟨k, e1, e2, _⟩ := DataW.trod_int uWord h0
  have hk : (xs.map (·.1))[i]? = some (DataW.lit (.int .u32 k)) := by
   rw [List.getElem?_map, List.getElem?_eq_getElem hxi, e2]; rfl
  have hd : DataW.agg (xs.map (·.1)) = D := hx1.1.symm
  have hd' : xs.map (·.1) = ns.map fun n => (DataW.lit (.int .u32 n) : DataW Unit) := by
   rw [hD] at hd
   simpa only [DataW.agg.injEq] using hd
  rw [hd', List.getElem?_map, hz] at hk
  have hkn : z = k := by simpa using hk
  subst hkn
  rw [hcell i, ← Array.getElem?_toList]
  have : (cs0.toList.drop (i * 1)).take 1 = [.int .u32 z] := e1
  rw [Nat.mul_one] at this
  have h2 := congrArg (·[0]?) this
  simpa using h2
 refine ⟨?_, fun i u hu => ?_⟩
 · obtain ⟨z, hz⟩ : ∃ z, ns[0]? = some z := ⟨ns[0], List.getElem?_eq_getElem (by omega)⟩
   have h1 := key 0 z hz
   apply Nat.lt_of_not_le
   intro hle
   simp [World.cell?, Array.getElem?_eq_none hle] at h1
 · rw [List.getElem?_map] at hu
   cases hl : ns[i]? with
   | none => rw [hl] at hu; cases hu
   | some z => rw [hl] at hu; cases hu; exact key i z hl
theorem of_laid {W : World} (h : laidMetH Tryd.prog laidL W) : GloW W (fun _ => False) := by
 rw [MakeChecks.laidMetH_plain _ _ _ (by kernel_rfl)] at h
 obtain ⟨ps, ⟨g0, t0, cs0, f0, p0, q0, hg0, ht0, hv0, hd0, ⟨g1, t1, cs1, f1, p1, q1, hg1, ht1, hv1, hd1, ⟨g2, t2, cs2, f2, p2, q2, hg2, ht2, hv2, hd2, _⟩, _⟩, _⟩, _⟩ := h
 have k0 := tab_of (g := 2) (T := 145) (n := 16) (ns := lines) (by kernel_rfl) (by kernel_rfl) (by kernel_rfl) (by kernel_rfl) (by decide) (by kernel_rfl) hg0 ht0 hv0 hd0
 have k1 := tab_of (g := 1) (T := 132) (n := 64) (ns := parts) (by kernel_rfl) (by kernel_rfl) (by kernel_rfl) (by kernel_rfl) (by decide) (by kernel_rfl) hg1 ht1 hv1 hd1
 have k2 := tab_of (g := 0) (T := 111) (n := 8) (ns := first) (by kernel_rfl) (by kernel_rfl) (by kernel_rfl) (by kernel_rfl) (by decide) (by kernel_rfl) hg2 ht2 hv2 hd2
 intro p hp
 rcases List.mem_cons.1 hp with rfl | hp
 · exact ⟨k2.1, fun h => h, k2.2⟩
 · rcases List.mem_cons.1 hp with rfl | hp
   · exact ⟨k1.1, fun h => h, k1.2⟩
   · rcases List.mem_cons.1 hp with rfl | hp
     · exact ⟨k0.1, fun h => h, k0.2⟩
     · cases hp
end Go.Iw
