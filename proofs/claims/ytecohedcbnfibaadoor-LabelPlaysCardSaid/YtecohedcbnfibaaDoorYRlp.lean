/- LabelPlays: the row. -/
import Derived.Test.YtecohedcbnfibaaDoorYLp
import Derived.Test.YtecohedcbnfibaaDoorYSo7
import Derived.Test.YtecohedcbnfibaaDoorYLd
import Derived.Test.YtecohedcbnfibaaDoorRows
import Derived.Test.YtecohedcbnfibaaDoorTie
import Derived.Test.YtecohedcbnfibaaDoorCards
import Derived.SevenTiedAt
namespace Go.Proofs.YtecohedcbnfibaaDoor.labelPlays
open Go.Iv Go.Iw Go.ChangeShapes Go.WideShapes Go.ChangeAt Go.RowKit
set_option linter.unusedVariables false
theorem own : ownKnob Tryd.prog.godebug = none := by kernel_rfl
theorem laidOut : laidOutB Tryd.prog = true := by kernel_rfl
theorem bytesOf_by : ∀ T e t, TyP Tryd.prog (.sl e t) T → Tryd.prog.bytesOf e = Tryd.prog.bytesOf e := fun _ _ _ _ => rfl

theorem walk (W : World) (hL : laidMetH Tryd.prog laidL W) (v0 : Value) (x0 : Ty.D (.sl 58 tAct)) (r0 : RepV W (fun b => b < W.heap.size) (.sl 58 tAct) x0 v0) (w0 : Wf Tryd.prog.bytesOf (.sl 58 tAct) x0) :
    Calls Tryd.prog 8 #[v0] W fun e W' => e = .returned (.bool true) ∧ Below W.heap.size W W' := by
  have e : law08.LabelPlays.F [.tv (.sl 58 tAct) x0] (fun res => res = [.tv .bool true]) = law08.LabelPlays.G (x0, ()) (fun res => res = [.tv .bool true]) := by kernel_rfl
  have hF : law08.LabelPlays.F [.tv (.sl 58 tAct) x0] (fun res => res = [.tv .bool true]) := e ▸ labelPlays _ x0 w0 _ rfl
  refine (law08.LabelPlays.good.ok [.tv (.sl 58 tAct) x0] (fun res => res = [.tv .bool true]) hF W (fun b => b < W.heap.size) [v0] (of_laid hL) (fun _ h => h) rfl ?_).mono ?_
  · intro i x hx
    match i, hx with
    | 0, hx => cases hx; exact ⟨v0, rfl, fun _ _ => r0⟩
  · rintro e W' ⟨res, us, v, okr, rfl, rfl, hb, hl, rfl, _, hr, _⟩
    obtain ⟨u, hu, hx⟩ := hr 0 _ rfl
    have hx := RepV.bool (hx [] (fun _ => undef))
    match us, hl, hu with
    | [u'], _, hu => cases hu; rw [hx]; exact ⟨rfl, hb⟩

set_option maxRecDepth 100000 in
theorem lifted (os : Os) (started : os.Started) (H : Type) (enc : TypeId × Value → H) :
    ReturnsInHanded {} Tryd.checked os 8 .any (fun w args => (Rows.labelPlaysSpec.pre enc Tryd.prog Tryd.f8 [] false w args ∧ laidMetH Tryd.prog laidL w) ∧ sizedMet enc Tryd.prog Tryd.f8 (OpenSpec.ofChange Rows.labelPlaysSpec) false w args) (Rows.labelPlaysSpec.post enc Tryd.prog Tryd.f8 false true false false) := by
  refine returnsInHanded_of_change_and (C := Tryd.checked) (X := fun w _ => laidMetH Tryd.prog laidL w) (fun _ _ _ hh h => h.of_heap hh) own started (by kernel_rfl) Tryd.func8
    (ChangeSpec.witness_shaped (enc := enc) (C := Tryd.checked) (os := os) (X := fun w _ => laidMetH Tryd.prog laidL w) false (World.doorLaid Tryd.prog 400 os) #[.slice none 0 0] 8 rfl (World.shaped_of_RefB (by kernel_rfl) (by kernel_rfl)) (by kernel_rfl) (by kernel_rfl) (by kernel_rfl) (door_met os _)) ?_
  intro W base args ds gs before hval0 hW hcnd hsz0 hL _
  have hsz : (DataW.weightsEach Tryd.prog (Tryd.f8.params.toList ++ Rows.labelPlaysSpec.plain.varTypes Tryd.prog) (ds ++ gs)).all (· ≤ reachBytes) = true := hsz0
  have hval : ∀ (j : Nat) t v, Tryd.f8.params[j]? = some t → args[j]? = some v → Value.okWide Tryd.prog W .any base t v := hval0
  have hW' := hW
  obtain ⟨p, q, hA0, hV, rfl, hfz, hnd⟩ := hW
  have hA : DataW.TrodAll enc Tryd.prog W 0 (fun _ => true) true Tryd.f8.params.toList args.toList ds p := hA0
  rw [Tryd.params8] at hA hval hsz
  obtain ⟨v0, vs0, d0, ds0, p0, q0, hargs, rfl, rfl, h0, r0⟩ := trodAll_cons hA
  obtain ⟨rfl, rfl, rfl⟩ := trodAll_nil r0
  obtain rfl : args = #[v0] := by cases args; simp_all
  obtain ⟨rfl, rfl⟩ := trodVars_none hV
  have lt0 : ∀ x ∈ p0, x.block < W.heap.size := by obtain ⟨m, hm⟩ := h0; exact DataW.trod_lt m _ _ _ hm
  obtain ⟨x0, rx0, wx0⟩ := open_any (by_ := Tryd.prog.bytesOf) bytesOf_by (t := .sl 58 tAct) (T := 56) (by kernel_rfl) (base_ty 56 (.sl 58 tAct) (by kernel_rfl)) (hval 0 56 v0 rfl rfl) h0 (fun n hn => by have := List.all_eq_true.1 hsz n (DataW.weights_mem_each (j := 0) rfl rfl n hn); simpa using this)
  clear hA0 hval0 hsz0 hsz
  refine (walk W hL v0 x0 rx0 wx0).mono fun e W' ⟨he, bel⟩ => ?_
  subst he
  exact ⟨_, rfl, _, _, _, [], _, [], hW', trodAll_mk1 (shut_bool Tryd.underlying4 _), (trodAll_cons_mk (Below.trod laidOut (by kernel_rfl) (of_decide_eq_true (by kernel_rfl)) h0 bel lt0) trodAll_mk0), rfl, bel.frame _, fun h => by cases h⟩

theorem over : Rows.labelPlaysRow.holds Tryd.pinned (OpenSpec.ofChange Rows.labelPlaysSpec) :=
  OpenClaim.holds_of_wide 8 Tryd.f8 rfl rfl rfl rfl rfl rfl rfl ⟨rfl, rfl, rfl, rfl, rfl⟩ rfl rfl rfl rfl rfl (by kernel_rfl) Tryd.func8 (by kernel_rfl)
    (of_decide_eq_true (by kernel_rfl)) (by unfold Func.isWrapper; first | (rw [if_pos (by decide +kernel)]; kernel_rfl) | (rw [if_neg (by decide +kernel)]; exact ⟨rfl, rfl⟩))
    (fun os started H enc _ => lifted os started H enc)
theorem proved : Rows.LabelPlaysSaid := over
theorem card : Rows.LabelPlaysCardSaid :=
  Claim7.holds_tied_plain_at .later [] [.data] true (true, "f34f01d4d7b90a31c7c84f0c06615c12f41545dd0d1282ecb26e7d03a554182e") false
    proved (fun _ h => by cases h) (by kernel_rfl) (fun _ h => by cases h) labelPlays_row_tie rfl ⟨rfl, rfl⟩ (by kernel_rfl) rfl
    (fun f fn hf hfn => by
      obtain rfl : f = 8 := Option.some.inj ((show Tryd.prog.funcNamed "interleaf/interleaflaw08.LabelPlays" = some 8 by kernel_rfl).symm.trans hf) |>.symm
      obtain rfl : fn = Tryd.f8 := (Option.some.inj (Tryd.func8.symm.trans hfn)).symm
      exact ⟨by kernel_rfl, fun j t ht => by
        rw [Tryd.params8] at ht
        have hl := List.mem_of_getElem? (show ([56] : List Nat)[j]? = some t by simpa using ht)
        have : ∀ x ∈ ([56] : List Nat), Tryd.prog.wantsStandIn x = false := by decide +kernel
        exact this t hl⟩)
    (by kernel_rfl)
end Go.Proofs.YtecohedcbnfibaaDoor.labelPlays
namespace Go.Proofs.YtecohedcbnfibaaDoor
theorem labelPlays_holds : Rows.LabelPlaysCardSaid := labelPlays.card
#print axioms labelPlays_holds
end Go.Proofs.YtecohedcbnfibaaDoor
