/- ShelfNil: the row. -/
import Derived.Test.YtcpeakceigidpaaDoorVQs
import Derived.Test.YtcpeakceigidpaaDoorVSo7
import Derived.Test.YtcpeakceigidpaaDoorVLd
import Derived.Test.YtcpeakceigidpaaDoorRows
import Derived.Test.YtcpeakceigidpaaDoorTie
import Derived.Test.YtcpeakceigidpaaDoorCards
import Derived.SevenTiedAt
set_option linter.all false
namespace Go.Proofs.YtcpeakceigidpaaDoor.shelfNil
open Go.Iv Go.Iw Go.ChangeShapes Go.WideShapes Go.ChangeAt Go.RowKit
theorem own : ownKnob Tryd.prog.godebug = none := by kernel_rfl
theorem laidOut : laidOutB Tryd.prog = true := by kernel_rfl
theorem bytesOf_by : ∀ T e t, TyP Tryd.prog (.sl e t) T → Tryd.prog.bytesOf e = Tryd.prog.bytesOf e := fun _ _ _ _ => rfl
theorem walk (W : World) (hL : laidMetH Tryd.prog laidL W) (v0 : Value) (x0 : Ty.D (.sl 5 (.int .u8))) (r0 : RepV W (fun b => b < W.heap.size) (.sl 5 (.int .u8)) x0 v0) (w0 : Wf Tryd.prog.bytesOf (.sl 5 (.int .u8)) x0) (v1 : Value) (x1 : Ty.D (.arr 32 (.int .u8))) (r1 : RepV W (fun b => b < W.heap.size) (.arr 32 (.int .u8)) x1 v1) (w1 : Wf Tryd.prog.bytesOf (.arr 32 (.int .u8)) x1) (v2 : Value) (x2 : Ty.D (.int .u8)) (r2 : RepV W (fun b => b < W.heap.size) (.int .u8) x2 v2) (w2 : Wf Tryd.prog.bytesOf (.int .u8) x2) :
 Calls Tryd.prog 9 #[v0, v1, v2] W fun e W' => e = .returned (.bool true) ∧ Below W.heap.size W W' := by
 have e : SA.F [.tv (.sl 5 (.int .u8)) x0, .tv (.arr 32 (.int .u8)) x1, .tv (.int .u8) x2] (fun res => res = [.tv .bool true]) = SA.G (x0, x1, x2, ()) (fun res => res = [.tv .bool true]) := by kernel_rfl
 have hF : SA.F [.tv (.sl 5 (.int .u8)) x0, .tv (.arr 32 (.int .u8)) x1, .tv (.int .u8) x2] (fun res => res = [.tv .bool true]) := e ▸ shelfNil _ x0 x1 x2 w0 w1 w2 _ rfl
 refine (SA.good.ok [.tv (.sl 5 (.int .u8)) x0, .tv (.arr 32 (.int .u8)) x1, .tv (.int .u8) x2] (fun res => res = [.tv .bool true]) hF W (fun b => b < W.heap.size) [v0, v1, v2] (of_laid hL) (fun _ h => h) rfl ?_).mono ?_
 · intro i x hx
   match i, hx with
   | 0, hx => cases hx; exact ⟨v0, rfl, fun _ _ => r0⟩
   | 1, hx => cases hx; exact ⟨v1, rfl, fun _ _ => r1⟩
   | 2, hx => cases hx; exact ⟨v2, rfl, fun _ _ => r2⟩
 · rintro e W' ⟨res, us, v, okr, rfl, rfl, hb, hl, rfl, _, hr, _⟩
   obtain ⟨u, hu, hx⟩ := hr 0 _ rfl
   have hx := RepV.bool (hx [] (fun _ => undef))
   match us, hl, hu with
   | [u'], _, hu => cases hu; rw [hx]; exact ⟨rfl, hb⟩
set_option maxRecDepth 100000 in
theorem lifted (os : Os) (started : os.Started) (H : Type) (enc : TypeId × Value → H) :
 ReturnsInHanded {} Tryd.checked os 9 .any (fun w args => (Rows.shelfNilSpec.pre enc Tryd.prog Tryd.f9 [] false w args ∧ laidMetH Tryd.prog laidL w) ∧ sizedMet enc Tryd.prog Tryd.f9 (OpenSpec.ofChange Rows.shelfNilSpec) false w args) (Rows.shelfNilSpec.post enc Tryd.prog Tryd.f9 false true false false) := by
 refine returnsInHanded_of_change_and (C := Tryd.checked) (X := fun w _ => laidMetH Tryd.prog laidL w) (fun _ _ _ hh h => h.of_heap hh) own started (by kernel_rfl) Tryd.func9
  (ChangeSpec.witness_shaped (enc := enc) (C := Tryd.checked) (os := os) (X := fun w _ => laidMetH Tryd.prog laidL w) false (World.doorLaid Tryd.prog 400 os) #[.slice none 0 0, .agg (List.replicate 32 (.int .u8 0)).toArray, .int .u8 0] 8 rfl (World.shaped_of_RefB (by kernel_rfl) (by kernel_rfl)) (by kernel_rfl) (by kernel_rfl) (by kernel_rfl) (door_met os _)) ?_
 intro W base args ds gs before hval0 hW hcnd hsz0 hL _
 have hsz : (DataW.weightsEach Tryd.prog (Tryd.f9.params.toList ++ Rows.shelfNilSpec.plain.varTypes Tryd.prog) (ds ++ gs)).all (· ≤ reachBytes) = true := hsz0
 have hval : ∀ (j : Nat) t v, Tryd.f9.params[j]? = some t → args[j]? = some v → Value.okWide Tryd.prog W .any base t v := hval0
 have hW' := hW
 obtain ⟨p, q, hA0, hV, rfl, hfz, hnd⟩ := hW
 have hA : DataW.TrodAll enc Tryd.prog W 0 (fun _ => true) true Tryd.f9.params.toList args.toList ds p := hA0
 rw [Tryd.params9] at hA hval hsz
 obtain ⟨v0, vs0, d0, ds0, p0, q0, hargs, rfl, rfl, h0, r0⟩ := trodAll_cons hA
 obtain ⟨v1, vs1, d1, ds1, p1, q1, rfl, rfl, rfl, h1, r1⟩ := trodAll_cons r0
 obtain ⟨v2, vs2, d2, ds2, p2, q2, rfl, rfl, rfl, h2, r2⟩ := trodAll_cons r1
 obtain ⟨rfl, rfl, rfl⟩ := trodAll_nil r2
 obtain rfl : args = #[v0, v1, v2] := by cases args; simp_all
 obtain ⟨rfl, rfl⟩ := trodVars_none hV
 have lt0 : ∀ x ∈ p0, x.block < W.heap.size := by obtain ⟨m, hm⟩ := h0; exact DataW.trod_lt m _ _ _ hm
 obtain ⟨x0, rx0, wx0⟩ := open_any (by_ := Tryd.prog.bytesOf) bytesOf_by (t := .sl 5 (.int .u8)) (T := 22) (by kernel_rfl) (base_ty 22 (.sl 5 (.int .u8)) (by kernel_rfl)) (hval 0 22 v0 rfl rfl) h0 (fun n hn => by have := List.all_eq_true.1 hsz n (DataW.weights_mem_each (j := 0) rfl rfl n hn); simpa using this)
 have lt1 : ∀ x ∈ p1, x.block < W.heap.size := by obtain ⟨m, hm⟩ := h1; exact DataW.trod_lt m _ _ _ hm
 obtain ⟨x1, rx1, wx1⟩ := open_any (by_ := Tryd.prog.bytesOf) bytesOf_by (t := .arr 32 (.int .u8)) (T := 28) (by kernel_rfl) (base_ty 28 (.arr 32 (.int .u8)) (by kernel_rfl)) (hval 1 28 v1 rfl rfl) h1 (fun n hn => by have := List.all_eq_true.1 hsz n (DataW.weights_mem_each (j := 1) rfl rfl n hn); simpa using this)
 have lt2 : ∀ x ∈ p2, x.block < W.heap.size := by obtain ⟨m, hm⟩ := h2; exact DataW.trod_lt m _ _ _ hm
 obtain ⟨x2, rx2, wx2⟩ := open_any (by_ := Tryd.prog.bytesOf) bytesOf_by (t := .int .u8) (T := 5) (by kernel_rfl) (base_ty 5 (.int .u8) (by kernel_rfl)) (hval 2 5 v2 rfl rfl) h2 (fun n hn => by have := List.all_eq_true.1 hsz n (DataW.weights_mem_each (j := 2) rfl rfl n hn); simpa using this)
 clear hA0 hval0 hsz0 hsz
 refine (walk W hL v0 x0 rx0 wx0 v1 x1 rx1 wx1 v2 x2 rx2 wx2).mono fun e W' ⟨he, bel⟩ => ?_
 subst he
 exact ⟨_, rfl, _, _, _, [], _, [], hW', trodAll_mk1 (shut_bool Tryd.underlying4 _), (trodAll_cons_mk (Below.trod laidOut (by kernel_rfl) (of_decide_eq_true (by kernel_rfl)) h0 bel lt0) (trodAll_cons_mk (Below.trod laidOut (by kernel_rfl) (of_decide_eq_true (by kernel_rfl)) h1 bel lt1) (trodAll_cons_mk (Below.trod laidOut (by kernel_rfl) (of_decide_eq_true (by kernel_rfl)) h2 bel lt2) trodAll_mk0))), rfl, bel.frame _, fun h => by cases h⟩
theorem over : Rows.shelfNilRow.holds Tryd.pinned (OpenSpec.ofChange Rows.shelfNilSpec) :=
 OpenClaim.holds_of_wide 9 Tryd.f9 rfl rfl rfl rfl rfl rfl rfl ⟨rfl, rfl, rfl, rfl, rfl⟩ rfl rfl rfl rfl rfl (by kernel_rfl) Tryd.func9 (by kernel_rfl)
  (of_decide_eq_true (by kernel_rfl)) (by unfold Func.isWrapper; first | (rw [if_pos (by decide +kernel)]; kernel_rfl) | (rw [if_neg (by decide +kernel)]; exact ⟨rfl, rfl⟩))
  (fun os started H enc _ => lifted os started H enc)
theorem proved : Rows.ShelfNilSaid := over
theorem card : Rows.ShelfNilCardSaid :=
 Claim7.holds_tied_plain_at .later [] [.data, .data, .data] true (true, "7c07777afe947bdf6429ac2a62d9a0137d80515f6725f369624269ae9f6bb754") false
  proved (fun _ h => by cases h) (by kernel_rfl) (fun _ h => by cases h) shelfNil_row_tie rfl ⟨rfl, rfl⟩ (by kernel_rfl) rfl
  (fun f fn hf hfn => by
   obtain rfl : f = 9 := Option.some.inj ((show Tryd.prog.funcNamed "interleaf/interleaflaw07.ShelfNil" = some 9 by kernel_rfl).symm.trans hf) |>.symm
   obtain rfl : fn = Tryd.f9 := (Option.some.inj (Tryd.func9.symm.trans hfn)).symm
   exact ⟨by kernel_rfl, fun j t ht => by
    rw [Tryd.params9] at ht
    have hl := List.mem_of_getElem? (show ([22, 28, 5] : List Nat)[j]? = some t by simpa using ht)
    have : ∀ x ∈ ([22, 28, 5] : List Nat), Tryd.prog.wantsStandIn x = false := by decide +kernel
    exact this t hl⟩)
  (by kernel_rfl)
end Go.Proofs.YtcpeakceigidpaaDoor.shelfNil
namespace Go.Proofs.YtcpeakceigidpaaDoor
theorem shelfNil_holds : Rows.ShelfNilCardSaid := shelfNil.card
#print axioms shelfNil_holds
end Go.Proofs.YtcpeakceigidpaaDoor
