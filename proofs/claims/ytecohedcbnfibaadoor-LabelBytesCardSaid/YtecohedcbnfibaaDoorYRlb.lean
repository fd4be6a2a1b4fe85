/- LabelBytes: the row. -/
import Derived.Test.YtecohedcbnfibaaDoorYLb
import Derived.Test.YtecohedcbnfibaaDoorYSo6
import Derived.Test.YtecohedcbnfibaaDoorYLd
import Derived.Test.YtecohedcbnfibaaDoorRows
import Derived.Test.YtecohedcbnfibaaDoorTie
import Derived.Test.YtecohedcbnfibaaDoorCards
import Derived.SevenTiedAt
namespace Go.Proofs.YtecohedcbnfibaaDoor.labelBytes
open Go.Iv Go.Iw Go.ChangeShapes Go.WideShapes Go.ChangeAt Go.RowKit
set_option linter.unusedVariables false
theorem own : ownKnob Tryd.prog.godebug = none := by kernel_rfl
theorem laidOut : laidOutB Tryd.prog = true := by kernel_rfl
theorem bytesOf_by : ∀ T e t, TyP Tryd.prog (.sl e t) T → Tryd.prog.bytesOf e = Tryd.prog.bytesOf e := fun _ _ _ _ => rfl

theorem walk (W : World) (hL : laidMetH Tryd.prog laidL W) (v0 : Value) (x0 : Ty.D (.str)) (r0 : RepV W (fun b => b < W.heap.size) (.str) x0 v0) (w0 : Wf Tryd.prog.bytesOf (.str) x0) (v1 : Value) (x1 : Ty.D (.arr 32 (.int .u8))) (r1 : RepV W (fun b => b < W.heap.size) (.arr 32 (.int .u8)) x1 v1) (w1 : Wf Tryd.prog.bytesOf (.arr 32 (.int .u8)) x1) (v2 : Value) (x2 : Ty.D (.bool)) (r2 : RepV W (fun b => b < W.heap.size) (.bool) x2 v2) (w2 : Wf Tryd.prog.bytesOf (.bool) x2) :
    Calls Tryd.prog 7 #[v0, v1, v2] W fun e W' => e = .returned (.bool true) ∧ Below W.heap.size W W' := by
  have e : law08.LabelBytes.F [.tv (.str) x0, .tv (.arr 32 (.int .u8)) x1, .tv (.bool) x2] (fun res => res = [.tv .bool true]) = law08.LabelBytes.G (x0, x1, x2, ()) (fun res => res = [.tv .bool true]) := by kernel_rfl
  have hF : law08.LabelBytes.F [.tv (.str) x0, .tv (.arr 32 (.int .u8)) x1, .tv (.bool) x2] (fun res => res = [.tv .bool true]) := e ▸ labelBytes _ x0 x1 x2 w0 w1 w2 _ rfl
  refine (law08.LabelBytes.good.ok [.tv (.str) x0, .tv (.arr 32 (.int .u8)) x1, .tv (.bool) x2] (fun res => res = [.tv .bool true]) hF W (fun b => b < W.heap.size) [v0, v1, v2] (of_laid hL) (fun _ h => h) rfl ?_).mono ?_
  · intro i x hx
    match i, hx with
    | 0, hx => cases hx; exact ⟨v0, rfl, fun _ _ => r0⟩
    | 1, hx => cases hx; exact ⟨v1, rfl, fun _ _ => r1⟩
    | 2, hx => cases hx; exact ⟨v2, rfl, fun _ _ => r2⟩
  · rintro e W' ⟨res, us, v, okr, rfl, rfl, hb, hl, rfl, _, hr, _⟩
    obtain ⟨u, hu, hx⟩ := hr 0 _ rfl
    have hx := RepV.bool (hx [] (fun _ => undef))
    match us, hl, hu with
    | [u'], _, hu => cases hu; rw [hx]; exact ⟨rfl, hb⟩

set_option maxRecDepth 100000 in
theorem lifted (os : Os) (started : os.Started) (H : Type) (enc : TypeId × Value → H) :
    ReturnsInHanded {} Tryd.checked os 7 .any (fun w args => (Rows.labelBytesSpec.pre enc Tryd.prog Tryd.f7 [] false w args ∧ laidMetH Tryd.prog laidL w) ∧ sizedMet enc Tryd.prog Tryd.f7 (OpenSpec.ofChange Rows.labelBytesSpec) false w args) (Rows.labelBytesSpec.post enc Tryd.prog Tryd.f7 false true false false) := by
  refine returnsInHanded_of_change_and (C := Tryd.checked) (X := fun w _ => laidMetH Tryd.prog laidL w) (fun _ _ _ hh h => h.of_heap hh) own started (by kernel_rfl) Tryd.func7
    (ChangeSpec.witness_shaped (enc := enc) (C := Tryd.checked) (os := os) (X := fun w _ => laidMetH Tryd.prog laidL w) false (World.doorLaid Tryd.prog 400 os) #[.string ⟨#[]⟩, .agg (List.replicate 32 (.int .u8 0)).toArray, .bool false] 8 rfl (World.shaped_of_RefB (by kernel_rfl) (by kernel_rfl)) (by kernel_rfl) (by kernel_rfl) (by kernel_rfl) (door_met os _)) ?_
  intro W base args ds gs before hval0 hW hcnd hsz0 hL _
  have hsz : (DataW.weightsEach Tryd.prog (Tryd.f7.params.toList ++ Rows.labelBytesSpec.plain.varTypes Tryd.prog) (ds ++ gs)).all (· ≤ reachBytes) = true := hsz0
  have hval : ∀ (j : Nat) t v, Tryd.f7.params[j]? = some t → args[j]? = some v → Value.okWide Tryd.prog W .any base t v := hval0
  have hW' := hW
  obtain ⟨p, q, hA0, hV, rfl, hfz, hnd⟩ := hW
  have hA : DataW.TrodAll enc Tryd.prog W 0 (fun _ => true) true Tryd.f7.params.toList args.toList ds p := hA0
  rw [Tryd.params7] at hA hval hsz
  obtain ⟨v0, vs0, d0, ds0, p0, q0, hargs, rfl, rfl, h0, r0⟩ := trodAll_cons hA
  obtain ⟨v1, vs1, d1, ds1, p1, q1, rfl, rfl, rfl, h1, r1⟩ := trodAll_cons r0
  obtain ⟨v2, vs2, d2, ds2, p2, q2, rfl, rfl, rfl, h2, r2⟩ := trodAll_cons r1
  obtain ⟨rfl, rfl, rfl⟩ := trodAll_nil r2
  obtain rfl : args = #[v0, v1, v2] := by cases args; simp_all
  obtain ⟨rfl, rfl⟩ := trodVars_none hV
  have lt0 : ∀ x ∈ p0, x.block < W.heap.size := by obtain ⟨m, hm⟩ := h0; exact DataW.trod_lt m _ _ _ hm
  obtain ⟨x0, rx0, wx0⟩ := open_any (by_ := Tryd.prog.bytesOf) bytesOf_by (t := .str) (T := 9) (by kernel_rfl) (base_ty 9 (.str) (by kernel_rfl)) (hval 0 9 v0 rfl rfl) h0 (fun n hn => by have := List.all_eq_true.1 hsz n (DataW.weights_mem_each (j := 0) rfl rfl n hn); simpa using this)
  have lt1 : ∀ x ∈ p1, x.block < W.heap.size := by obtain ⟨m, hm⟩ := h1; exact DataW.trod_lt m _ _ _ hm
  obtain ⟨x1, rx1, wx1⟩ := open_any (by_ := Tryd.prog.bytesOf) bytesOf_by (t := .arr 32 (.int .u8)) (T := 31) (by kernel_rfl) (base_ty 31 (.arr 32 (.int .u8)) (by kernel_rfl)) (hval 1 31 v1 rfl rfl) h1 (fun n hn => by have := List.all_eq_true.1 hsz n (DataW.weights_mem_each (j := 1) rfl rfl n hn); simpa using this)
  have lt2 : ∀ x ∈ p2, x.block < W.heap.size := by obtain ⟨m, hm⟩ := h2; exact DataW.trod_lt m _ _ _ hm
  obtain ⟨x2, rx2, wx2⟩ := open_any (by_ := Tryd.prog.bytesOf) bytesOf_by (t := .bool) (T := 4) (by kernel_rfl) (base_ty 4 (.bool) (by kernel_rfl)) (hval 2 4 v2 rfl rfl) h2 (fun n hn => by have := List.all_eq_true.1 hsz n (DataW.weights_mem_each (j := 2) rfl rfl n hn); simpa using this)
  clear hA0 hval0 hsz0 hsz
  refine (walk W hL v0 x0 rx0 wx0 v1 x1 rx1 wx1 v2 x2 rx2 wx2).mono fun e W' ⟨he, bel⟩ => ?_
  subst he
  exact ⟨_, rfl, _, _, _, [], _, [], hW', trodAll_mk1 (shut_bool Tryd.underlying4 _), (trodAll_cons_mk (Below.trod laidOut (by kernel_rfl) (of_decide_eq_true (by kernel_rfl)) h0 bel lt0) (trodAll_cons_mk (Below.trod laidOut (by kernel_rfl) (of_decide_eq_true (by kernel_rfl)) h1 bel lt1) (trodAll_cons_mk (Below.trod laidOut (by kernel_rfl) (of_decide_eq_true (by kernel_rfl)) h2 bel lt2) trodAll_mk0))), rfl, bel.frame _, fun h => by cases h⟩

theorem over : Rows.labelBytesRow.holds Tryd.pinned (OpenSpec.ofChange Rows.labelBytesSpec) :=
  OpenClaim.holds_of_wide 7 Tryd.f7 rfl rfl rfl rfl rfl rfl rfl ⟨rfl, rfl, rfl, rfl, rfl⟩ rfl rfl rfl rfl rfl (by kernel_rfl) Tryd.func7 (by kernel_rfl)
    (of_decide_eq_true (by kernel_rfl)) (by unfold Func.isWrapper; first | (rw [if_pos (by decide +kernel)]; kernel_rfl) | (rw [if_neg (by decide +kernel)]; exact ⟨rfl, rfl⟩))
    (fun os started H enc _ => lifted os started H enc)
theorem proved : Rows.LabelBytesSaid := over
theorem card : Rows.LabelBytesCardSaid :=
  Claim7.holds_tied_plain_at .later [] [.data] true (true, "f34f01d4d7b90a31c7c84f0c06615c12f41545dd0d1282ecb26e7d03a554182e") false
    proved (fun _ h => by cases h) (by kernel_rfl) (fun _ h => by cases h) labelBytes_row_tie rfl ⟨rfl, rfl⟩ (by kernel_rfl) rfl
    (fun f fn hf hfn => by
      obtain rfl : f = 7 := Option.some.inj ((show Tryd.prog.funcNamed "interleaf/interleaflaw08.LabelBytes" = some 7 by kernel_rfl).symm.trans hf) |>.symm
      obtain rfl : fn = Tryd.f7 := (Option.some.inj (Tryd.func7.symm.trans hfn)).symm
      exact ⟨by kernel_rfl, fun j t ht => by
        rw [Tryd.params7] at ht
        have hl := List.mem_of_getElem? (show ([9, 31, 4] : List Nat)[j]? = some t by simpa using ht)
        have : ∀ x ∈ ([9, 31, 4] : List Nat), Tryd.prog.wantsStandIn x = false := by decide +kernel
        exact this t hl⟩)
    (by kernel_rfl)
end Go.Proofs.YtecohedcbnfibaaDoor.labelBytes
namespace Go.Proofs.YtecohedcbnfibaaDoor
theorem labelBytes_holds : Rows.LabelBytesCardSaid := labelBytes.card
#print axioms labelBytes_holds
end Go.Proofs.YtecohedcbnfibaaDoor
