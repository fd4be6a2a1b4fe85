/- Contracts proved by hand: Settle, of nothing. -/
import Derived.Test.YtcpeakceigidpaaDoorVBs
import Derived.Lib.Walk
set_option linter.all false
namespace Go.Iw
open Go.Iv Go.Proofs Go.RowKit
theorem results_cell2 {fn : Func} {p q : Tmp} {ty uy : TypeId} {tmps : Array Value} {P : Program} {w : World} (h : fn.results = #[.cell p ty, .cell q uy]) {a b : Addr} {x y : Value} (ha : tmps.getD p undef = .pointer (some a)) (hb : tmps.getD q undef = .pointer (some b))
 (la : (loadVar ty a).run P w = .ok x w) (lb : (loadVar uy b).run P w = .ok y w) : (results fn tmps).run P w = .ok (.tuple #[x, y]) w := by
 have ha' : tmps[p]?.getD undef = .pointer (some a) := by simpa using ha
 have hb' : tmps[q]?.getD undef = .pointer (some b) := by simpa using hb
 simp only [results, h]
 simp only [Array.mapM_eq_foldlM]
 simp [Sem.run_bind, Result.andThen, ha', hb', asAddr, la, lb]
theorem load_plain {P : Program} {w : World} {T : TypeId} {ad : Addr} {v : Value} (hT : (isAgg T).run P w = .ok false w) (h : w.cell? ad = some v) : (loadVar T ad).run P w = .ok v w := by
 simp only [loadVar, Sem.run_bind, hT, Result.andThen_ok, if_false, Bool.false_eq_true, run_load, h]
set_option maxHeartbeats 2000000 in
set_option maxRecDepth 100000 in
theorem settle_nil (w : World) : Calls Tryd.prog 27 #[.pointer none] w fun e w' => e = .returned (.tuple #[.bool false, .int .i64 2]) ∧ Below w.heap.size w w' := by
 have u25 := run_underlying Tryd.underlying25
 go_enter Tryd.func27, Tryd.ntmps27
 go_wp2
 (try simp only [Exit.inBlock, Exit.then])
 generalize hW : (((w.alloc (Obj.cells #[Value.pointer none] 25)).alloc (Obj.cells #[Value.bool false] 4)).alloc (Obj.cells #[Value.int IntKind.i64 2] 30)) = W
 have hb : Below w.heap.size w W := by
  rw [← hW]
  exact (((Below.refl _ w).alloc (Nat.le_refl _) _).alloc (by simp) _).alloc (by simp; omega) _
 have g2 : W.cell? ⟨w.heap.size + 1, 0, none⟩ = some (.bool false) := by
  have h : W.heap[w.heap.size + 1]? = some (.cells #[Value.bool false] 4) := by
   rw [← hW]
   refine (Below.heap_alloc _ _ _ (by simp)).trans ?_
   have := World.alloc_heap_new (w.alloc (Obj.cells #[Value.pointer none] 25)) (Obj.cells #[Value.bool false] 4)
   rwa [World.size_alloc] at this
  simp [World.cell?, h]
 have g3 : W.cell? ⟨w.heap.size + 1 + 1, 0, none⟩ = some (.int .i64 2) := by
  have h : W.heap[w.heap.size + 1 + 1]? = some (.cells #[Value.int IntKind.i64 2] 30) := by
   rw [← hW]
   have := World.alloc_heap_new ((w.alloc (Obj.cells #[Value.pointer none] 25)).alloc (Obj.cells #[Value.bool false] 4)) (Obj.cells #[Value.int IntKind.i64 2] 30)
   rwa [World.size_alloc, World.size_alloc] at this
  simp [World.cell?, h]
 have a4 : (isAgg 4).run Tryd.prog W = .ok false W := by simp [isAgg, underlying, Tryd.underlying4]
 have a30 : (isAgg 30).run Tryd.prog W = .ok false W := by simp [isAgg, underlying, Tryd.underlying30]
 clear hW
 refine bodyPost_ret (results_cell2 (x := .bool false) (y := .int .i64 2) rfl rfl rfl (load_plain a4 g2) (load_plain a30 g3)) rfl ?_
 exact ⟨rfl, hb⟩
def AC.F : List AV0 → (List AV0 → Prop) → Prop := byPs [.nil] fun _ J => AC fun a b => J [.tv .bool a, .tv (.int .i64) b]
theorem AC.good : Go.Iv.Good Tryd.prog 27 AC.F where
 fn := ⟨_, Tryd.func27, by kernel_rfl, by kernel_rfl⟩
 det := by
  intro args J hF
  unfold AC.F byPs at hF
  split at hF
  · rename_i x hx
    have ha : args = [.nilp] := psRd_out hx
    subst ha
    refine ⟨_, hF, ?_⟩
    rintro args' J' ⟨rfl, hJ'⟩ w ok vals hg hok hlen hvals
    obtain ⟨v, hv, hrv⟩ := hvals 0 _ rfl
    have rv : v = .pointer none := hrv [] (fun _ => undef)
    have hvs : vals.toArray = #[.pointer none] := by
     match vals, hlen, hv with
     | [_], _, hv => cases hv; rw [rv]
    rw [hvs]
    refine (settle_nil w).mono ?_
    rintro e W' ⟨rfl, hb⟩
    refine ⟨_, [.bool false, .int .i64 2], _, ok, hJ', rfl, hb, rfl, rfl, fun b hb => .inl hb, ?_, ?_⟩
    · intro i x hx
      match i, hx with
      | 0, hx => cases hx; exact ⟨_, rfl, fun _ _ => RepV.of_bool⟩
      | 1, hx => cases hx; exact ⟨_, rfl, fun _ _ => RepV.of_int⟩
    · intro i e t xs u hx hu
      match i, hx with
      | 0, hx => cases hx
      | 1, hx => cases hx
  · exact hF.elim
end Go.Iw
