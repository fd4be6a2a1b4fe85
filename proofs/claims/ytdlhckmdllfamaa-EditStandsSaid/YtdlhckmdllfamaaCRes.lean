/- EditStands: the row. -/
import Derived.Test.YtdlhckmdllfamaaCLes
import Derived.Test.YtdlhckmdllfamaaCSo1
import Derived.Test.YtdlhckmdllfamaaRows
namespace Go.Proofs.Ytdlhckmdllfamaa.editStands
open Go.Iv Go.Iw Go.ChangeShapes Go.WideShapes Go.ChangeAt Go.RowKit
set_option linter.unusedVariables false
theorem own : ownKnob Try.prog.godebug = none := by kernel_rfl
theorem laidOut : laidOutB Try.prog = true := by kernel_rfl
theorem bytesOf_by : ∀ T e t, TyP Try.prog (.sl e t) T → Try.prog.bytesOf e = Try.prog.bytesOf e := fun _ _ _ _ => rfl

/-- The law, run. -/
theorem walk (W : World) (v0 : Value) (x0 : Ty.D (.bool)) (r0 : RepV W (fun b => b < W.heap.size) (.bool) x0 v0) (w0 : Wf Try.prog.bytesOf (.bool) x0) :
    Calls Try.prog 8 #[v0] W fun e W' => e = .returned (.bool true) ∧ Below W.heap.size W W' := by
  have e : law12.EditStands.F [.tv (.bool) x0] (fun res => res = [.tv .bool true]) = law12.EditStands.G (x0, ()) (fun res => res = [.tv .bool true]) := by kernel_rfl
  have hF : law12.EditStands.F [.tv (.bool) x0] (fun res => res = [.tv .bool true]) := e ▸ editStands _ x0 w0 _ rfl
  refine (law12.EditStands.good.ok [.tv (.bool) x0] (fun res => res = [.tv .bool true]) hF W (fun b => b < W.heap.size) [v0] (fun _ h => h) rfl ?_).mono ?_
  · intro i x hx
    match i, hx with
    | 0, hx => cases hx; exact ⟨v0, rfl, fun _ _ => r0⟩
  · rintro e W' ⟨res, us, v, okr, rfl, rfl, hb, hl, rfl, _, hr, _⟩
    obtain ⟨u, hu, hx⟩ := hr 0 _ rfl
    have hx := RepV.bool (hx [] (fun _ => undef))
    match us, hl, hu with
    | [u'], _, hu => cases hu; rw [hx]; exact ⟨rfl, hb⟩

set_option maxRecDepth 100000 in
theorem lifted (os : Os) (started : os.Started) (H : Type) (enc : TypeId × Value → H) :
    ReturnsInHanded {} Try.checked os 8 .any (Rows.editStandsSpec.pre6 enc Try.prog Try.f8 Rows.editStandsRow.domain false) (Rows.editStandsSpec.post enc Try.prog Try.f8 false true false false) := by
  refine returnsInHanded_of_change_sized (C := Try.checked) own started (by kernel_rfl) Try.func8
    (ChangeSpec.witness6 (enc := enc) (C := Try.checked) false ⟨#[], #[.bool false], []⟩ 8 (by kernel_rfl) (by kernel_rfl) (by kernel_rfl) (by kernel_rfl)) ?_
  intro W base args ds gs before hval0 hW hcnd hsz0 _
  have hsz : (DataW.weightsEach Try.prog (Try.f8.params.toList ++ Rows.editStandsSpec.plain.varTypes Try.prog) (ds ++ gs)).all (· ≤ reachBytes) = true := hsz0
  have hval : ∀ (j : Nat) t v, Try.f8.params[j]? = some t → args[j]? = some v → Value.okWide Try.prog W .any base t v := hval0
  have hW' := hW
  obtain ⟨p, q, hA0, hV, rfl, hfz, hnd⟩ := hW
  have hA : DataW.TrodAll enc Try.prog W 0 (fun _ => true) true Try.f8.params.toList args.toList ds p := hA0
  rw [Try.params8] at hA hval hsz
  obtain ⟨v0, vs0, d0, ds0, p0, q0, hargs, rfl, rfl, h0, r0⟩ := trodAll_cons hA
  obtain ⟨rfl, rfl, rfl⟩ := trodAll_nil r0
  obtain rfl : args = #[v0] := by cases args; simp_all
  obtain ⟨rfl, rfl⟩ := trodVars_none hV
  have lt0 : ∀ x ∈ p0, x.block < W.heap.size := by obtain ⟨m, hm⟩ := h0; exact DataW.trod_lt m _ _ _ hm
  obtain ⟨x0, rx0, wx0⟩ := open_any (by_ := Try.prog.bytesOf) bytesOf_by (t := .bool) (T := 4) (by kernel_rfl) (base_ty 4 (.bool) (by kernel_rfl)) (hval 0 4 v0 rfl rfl) h0 (fun n hn => by have := List.all_eq_true.1 hsz n (DataW.weights_mem_each (j := 0) rfl rfl n hn); simpa using this)
  clear hA0 hval0 hsz0 hsz
  refine (walk W v0 x0 rx0 wx0).mono fun e W' ⟨he, bel⟩ => ?_
  subst he
  exact ⟨_, rfl, _, _, _, [], _, [], hW', trodAll_mk1 (shut_bool Try.underlying4 _), (trodAll_cons_mk (Below.trod laidOut (by kernel_rfl) (of_decide_eq_true (by kernel_rfl)) h0 bel lt0) trodAll_mk0), rfl, bel.frame _, fun h => by cases h⟩

theorem over : Rows.editStandsRow.holds Try.pinned (OpenSpec.ofChange Rows.editStandsSpec) :=
  OpenClaim.holds_of_wide 8 Try.f8 rfl rfl rfl rfl rfl rfl rfl ⟨rfl, rfl, rfl, rfl, rfl⟩ rfl rfl rfl rfl rfl (by kernel_rfl) Try.func8 (by kernel_rfl)
    (of_decide_eq_true (by kernel_rfl)) (by unfold Func.isWrapper; first | (rw [if_pos (by decide +kernel)]; kernel_rfl) | (rw [if_neg (by decide +kernel)]; exact ⟨rfl, rfl⟩))
    (fun os started H enc _ => lifted os started H enc)
theorem proved : Rows.EditStandsSaid := over
end Go.Proofs.Ytdlhckmdllfamaa.editStands
namespace Go.Proofs.Ytdlhckmdllfamaa
/-- The row, under a short name, for the claim. -/
theorem editStands_holds : Rows.EditStandsSaid := editStands.proved
#print axioms editStands_holds
end Go.Proofs.Ytdlhckmdllfamaa
