/- ExtentPlays: the row. -/
import Derived.Test.YtijalebbhnfofaaXQs
import Derived.Test.YtijalebbhnfofaaXSo2
import Derived.Test.YtijalebbhnfofaaRows
namespace Go.Proofs.Ytijalebbhnfofaa.extentPlays
open Go.Iv Go.Iw Go.ChangeShapes Go.WideShapes Go.ChangeAt Go.RowKit
set_option linter.unusedVariables false
theorem own : ownKnob Try.prog.godebug = none := by kernel_rfl
theorem laidOut : laidOutB Try.prog = true := by kernel_rfl
theorem bytesOf_by : ∀ T e t, TyP Try.prog (.sl e t) T → Try.prog.bytesOf e = Try.prog.bytesOf e := fun _ _ _ _ => rfl

/-- The law, run. -/
theorem walk (W : World) (v0 : Value) (x0 : Ty.D (.int .u8)) (r0 : RepV W (fun b => b < W.heap.size) (.int .u8) x0 v0) (w0 : Wf Try.prog.bytesOf (.int .u8) x0) (v1 : Value) (x1 : Ty.D (.sl 36 tAct)) (r1 : RepV W (fun b => b < W.heap.size) (.sl 36 tAct) x1 v1) (w1 : Wf Try.prog.bytesOf (.sl 36 tAct) x1) :
    Calls Try.prog 6 #[v0, v1] W fun e W' => e = .returned (.bool true) ∧ Below W.heap.size W W' := by
  have e : law06.ExtentPlays.F [.tv (.int .u8) x0, .tv (.sl 36 tAct) x1] (fun res => res = [.tv .bool true]) = law06.ExtentPlays.G (x0, x1, ()) (fun res => res = [.tv .bool true]) := by kernel_rfl
  have hF : law06.ExtentPlays.F [.tv (.int .u8) x0, .tv (.sl 36 tAct) x1] (fun res => res = [.tv .bool true]) := e ▸ extentPlays _ x0 x1 w0 w1 _ rfl
  refine (law06.ExtentPlays.good.ok [.tv (.int .u8) x0, .tv (.sl 36 tAct) x1] (fun res => res = [.tv .bool true]) hF W (fun b => b < W.heap.size) [v0, v1] (fun _ h => h) rfl ?_).mono ?_
  · intro i x hx
    match i, hx with
    | 0, hx => cases hx; exact ⟨v0, rfl, fun _ _ => r0⟩
    | 1, hx => cases hx; exact ⟨v1, rfl, fun _ _ => r1⟩
  · rintro e W' ⟨res, us, v, okr, rfl, rfl, hb, hl, rfl, _, hr, _⟩
    obtain ⟨u, hu, hx⟩ := hr 0 _ rfl
    have hx := RepV.bool (hx [] (fun _ => undef))
    match us, hl, hu with
    | [u'], _, hu => cases hu; rw [hx]; exact ⟨rfl, hb⟩

set_option maxRecDepth 100000 in
theorem lifted (os : Os) (started : os.Started) (H : Type) (enc : TypeId × Value → H) :
    ReturnsInHanded {} Try.checked os 6 .any (Rows.extentPlaysSpec.pre6 enc Try.prog Try.f6 Rows.extentPlaysRow.domain false) (Rows.extentPlaysSpec.post enc Try.prog Try.f6 false true false false) := by
  refine returnsInHanded_of_change_sized (C := Try.checked) own started (by kernel_rfl) Try.func6
    (ChangeSpec.witness6 (enc := enc) (C := Try.checked) false ⟨#[], #[.int .u8 0, .slice none 0 0], []⟩ 8 (by kernel_rfl) (by kernel_rfl) (by kernel_rfl) (by kernel_rfl)) ?_
  intro W base args ds gs before hval0 hW hcnd hsz0 _
  have hsz : (DataW.weightsEach Try.prog (Try.f6.params.toList ++ Rows.extentPlaysSpec.plain.varTypes Try.prog) (ds ++ gs)).all (· ≤ reachBytes) = true := hsz0
  have hval : ∀ (j : Nat) t v, Try.f6.params[j]? = some t → args[j]? = some v → Value.okWide Try.prog W .any base t v := hval0
  have hW' := hW
  obtain ⟨p, q, hA0, hV, rfl, hfz, hnd⟩ := hW
  have hA : DataW.TrodAll enc Try.prog W 0 (fun _ => true) true Try.f6.params.toList args.toList ds p := hA0
  rw [Try.params6] at hA hval hsz
  obtain ⟨v0, vs0, d0, ds0, p0, q0, hargs, rfl, rfl, h0, r0⟩ := trodAll_cons hA
  obtain ⟨v1, vs1, d1, ds1, p1, q1, rfl, rfl, rfl, h1, r1⟩ := trodAll_cons r0
  obtain ⟨rfl, rfl, rfl⟩ := trodAll_nil r1
  obtain rfl : args = #[v0, v1] := by cases args; simp_all
  obtain ⟨rfl, rfl⟩ := trodVars_none hV
  have lt0 : ∀ x ∈ p0, x.block < W.heap.size := by obtain ⟨m, hm⟩ := h0; exact DataW.trod_lt m _ _ _ hm
  obtain ⟨x0, rx0, wx0⟩ := open_any (by_ := Try.prog.bytesOf) bytesOf_by (t := .int .u8) (T := 5) (by kernel_rfl) (base_ty 5 (.int .u8) (by kernel_rfl)) (hval 0 5 v0 rfl rfl) h0 (fun n hn => by have := List.all_eq_true.1 hsz n (DataW.weights_mem_each (j := 0) rfl rfl n hn); simpa using this)
  have lt1 : ∀ x ∈ p1, x.block < W.heap.size := by obtain ⟨m, hm⟩ := h1; exact DataW.trod_lt m _ _ _ hm
  obtain ⟨x1, rx1, wx1⟩ := open_any (by_ := Try.prog.bytesOf) bytesOf_by (t := .sl 36 tAct) (T := 33) (by kernel_rfl) (base_ty 33 (.sl 36 tAct) (by kernel_rfl)) (hval 1 33 v1 rfl rfl) h1 (fun n hn => by have := List.all_eq_true.1 hsz n (DataW.weights_mem_each (j := 1) rfl rfl n hn); simpa using this)
  clear hA0 hval0 hsz0 hsz
  refine (walk W v0 x0 rx0 wx0 v1 x1 rx1 wx1).mono fun e W' ⟨he, bel⟩ => ?_
  subst he
  exact ⟨_, rfl, _, _, _, [], _, [], hW', trodAll_mk1 (shut_bool Try.underlying4 _), (trodAll_cons_mk (Below.trod laidOut (by kernel_rfl) (of_decide_eq_true (by kernel_rfl)) h0 bel lt0) (trodAll_cons_mk (Below.trod laidOut (by kernel_rfl) (of_decide_eq_true (by kernel_rfl)) h1 bel lt1) trodAll_mk0)), rfl, bel.frame _, fun h => by cases h⟩

theorem over : Rows.extentPlaysRow.holds Try.pinned (OpenSpec.ofChange Rows.extentPlaysSpec) :=
  OpenClaim.holds_of_wide 6 Try.f6 rfl rfl rfl rfl rfl rfl rfl ⟨rfl, rfl, rfl, rfl, rfl⟩ rfl rfl rfl rfl rfl (by kernel_rfl) Try.func6 (by kernel_rfl)
    (of_decide_eq_true (by kernel_rfl)) (by unfold Func.isWrapper; first | (rw [if_pos (by decide +kernel)]; kernel_rfl) | (rw [if_neg (by decide +kernel)]; exact ⟨rfl, rfl⟩))
    (fun os started H enc _ => lifted os started H enc)
theorem proved : Rows.ExtentPlaysSaid := over
end Go.Proofs.Ytijalebbhnfofaa.extentPlays
namespace Go.Proofs.Ytijalebbhnfofaa
/-- The row, under a short name, for the claim. -/
theorem extentPlays_holds : Rows.ExtentPlaysSaid := extentPlays.proved
#print axioms extentPlays_holds
end Go.Proofs.Ytijalebbhnfofaa
