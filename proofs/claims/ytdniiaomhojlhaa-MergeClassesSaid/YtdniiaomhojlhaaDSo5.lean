/- The program's functions do what the plain ones do. -/
import Derived.Test.YtdniiaomhojlhaaDSo4
namespace Go.Iw
open Go.Iv Go.Proofs
attribute [local irreducible] fnA awp
set_option maxHeartbeats 4000000
set_option maxRecDepth 100000
set_option linter.unusedVariables false
def merge.of.ct : Cuts := { lp := [], jn := [], ex := [], pl := [] }
def merge.of.cx : Cx := cxOf tyL byL borL rowL false [(33, chart.Find.F)] []
def merge.of.us : List (Nat × ((AE → St → Prop) → AE → St → Prop)) := []
def merge.of.ps : List PS := [.t (.sl 27 tElem), .t (.int .i64)]
def merge.of.G (x : (List Elem) × Int × Unit) (J : List AV0 → Prop) : Prop := merge.of x.1 x.2.1 (fun r0 => J [.tv tside r0])
def merge.of.F : List AV0 → (List AV0 → Prop) → Prop := byPs merge.of.ps merge.of.G
theorem merge.of.eq (x : psD merge.of.ps) (J : List AV0 → Prop) : merge.of.G x J = fnA merge.of.cx merge.of.ct Try.f41 (psMk merge.of.ps x) J := by kernel_rfl
theorem merge.of.good : Go.Iv.Good Try.prog 41 merge.of.F := good_gen (us := merge.of.us) (cxOk base rows (l := [(33, chart.Find.F)]) ⟨chart.Find.good, trivial⟩) Try.func41 (by kernel_rfl) (by kernel_rfl) merge.of.ps merge.of.G merge.of.eq (by kernel_rfl) (by kernel_rfl) (L := []) (M := []) (by kernel_rfl) (by kernel_rfl) trivial trivial
def merge.three_side.ct : Cuts := { lp := [], jn := [], ex := [], pl := [] }
def merge.three_side.cx : Cx := cxOf tyL byL borL rowL false [] []
def merge.three_side.us : List (Nat × ((AE → St → Prop) → AE → St → Prop)) := []
def merge.three_side.ps : List PS := [.t tside, .t tside, .t tside]
def merge.three_side.G (x : side × side × side × Unit) (J : List AV0 → Prop) : Prop := merge.three_side x.1 x.2.1 x.2.2.1 (fun r0 => J [.tv (.pair tside (.pair tside (.pair tside .unit))) r0])
def merge.three_side.F : List AV0 → (List AV0 → Prop) → Prop := byPs merge.three_side.ps merge.three_side.G
theorem merge.three_side.eq (x : psD merge.three_side.ps) (J : List AV0 → Prop) : merge.three_side.G x J = fnA merge.three_side.cx merge.three_side.ct Try.f40 (psMk merge.three_side.ps x) J := by kernel_rfl
theorem merge.three_side.good : Go.Iv.Good Try.prog 40 merge.three_side.F := good_gen (us := merge.three_side.us) (cxOk base rows (l := []) trivial) Try.func40 (by kernel_rfl) (by kernel_rfl) merge.three_side.ps merge.three_side.G merge.three_side.eq (by kernel_rfl) (by kernel_rfl) (L := []) (M := []) (by kernel_rfl) (by kernel_rfl) trivial trivial
def merge.Three_side_Pick.xr : Sk := ⟨[], 29, [(2, .ptr 2 0), (3, .var .bool)], [(2, .box 88 tside)]⟩
def merge.Three_side_Pick.j4.k : Sk := ⟨[], 29, [(1, .ptr 1 0), (2, .ptr 2 0), (4, .var .bool)], [(1, .box 90 (.pair tside (.pair tside (.pair tside .unit)))), (2, .box 88 tside)]⟩
def merge.Three_side_Pick.j4.X (U : AE → St → Prop) (x : Bool × (side × (side × (side × Unit))) × side × Unit) : Prop := merge.Three_side_Pick.j4 (fun t3 ot2 => U .ret (merge.Three_side_Pick.xr.mk' (t3, ot2, ()))) x.1 x.2.1 x.2.2.1
def merge.Three_side_Pick.ct : Cuts := { lp := [], jn := [(4, fun st U => merge.Three_side_Pick.j4.k.as st (merge.Three_side_Pick.j4.X U))], ex := [(.ret, merge.Three_side_Pick.xr)], pl := [] }
def merge.Three_side_Pick.cx : Cx := cxOf tyL byL borL rowL false [] []
def merge.Three_side_Pick.us : List (Nat × ((AE → St → Prop) → AE → St → Prop)) := []
theorem merge.Three_side_Pick.j4.eq (U : AE → St → Prop) (x : merge.Three_side_Pick.j4.k.D) : merge.Three_side_Pick.j4.X U x = awp merge.Three_side_Pick.cx merge.Three_side_Pick.ct (jnAt 4 merge.Three_side_Pick.cx merge.Three_side_Pick.ct Try.f52).code ((fnV merge.Three_side_Pick.ct.ex) U) ((jnAt 4 merge.Three_side_Pick.cx merge.Three_side_Pick.ct Try.f52).cont ((fnV merge.Three_side_Pick.ct.ex) U)) (merge.Three_side_Pick.j4.k.mk' x) := by kernel_rfl
theorem merge.Three_side_Pick.j4.jn : JnOk merge.Three_side_Pick.cx merge.Three_side_Pick.ct (usOf merge.Three_side_Pick.ct.ex merge.Three_side_Pick.us) (jnAt 4 merge.Three_side_Pick.cx merge.Three_side_Pick.ct Try.f52) := jn_gen none (by kernel_rfl) merge.Three_side_Pick.j4.k merge.Three_side_Pick.j4.X (fnV merge.Three_side_Pick.ct.ex) (by kernel_rfl) (fun U h => h) merge.Three_side_Pick.j4.eq
def merge.Three_side_Pick.ps : List PS := [.t (.pair tside (.pair tside (.pair tside .unit)))]
def merge.Three_side_Pick.G (x : (side × (side × (side × Unit))) × Unit) (J : List AV0 → Prop) : Prop := merge.Three_side_Pick x.1 (fun r0 r1 => J [.tv tside r0, .tv .bool r1])
def merge.Three_side_Pick.F : List AV0 → (List AV0 → Prop) → Prop := byPs merge.Three_side_Pick.ps merge.Three_side_Pick.G
theorem merge.Three_side_Pick.eq (x : psD merge.Three_side_Pick.ps) (J : List AV0 → Prop) : merge.Three_side_Pick.G x J = fnA merge.Three_side_Pick.cx merge.Three_side_Pick.ct Try.f52 (psMk merge.Three_side_Pick.ps x) J := by kernel_rfl
theorem merge.Three_side_Pick.good : Go.Iv.Good Try.prog 52 merge.Three_side_Pick.F := good_gen (us := merge.Three_side_Pick.us) (cxOk base rows (l := []) trivial) Try.func52 (by kernel_rfl) (by kernel_rfl) merge.Three_side_Pick.ps merge.Three_side_Pick.G merge.Three_side_Pick.eq (by kernel_rfl) (by kernel_rfl) (L := []) (M := [jnAt 4 merge.Three_side_Pick.cx merge.Three_side_Pick.ct Try.f52]) (by kernel_rfl) (by kernel_rfl) trivial ⟨merge.Three_side_Pick.j4.jn, trivial⟩
def merge.parted.l3xe0 : Sk := ⟨[], 27, [(7, .row 7)], [(7, .row 70 tConflict)]⟩
def merge.parted.xr : Sk := ⟨[], 27, [(6, .row 6)], [(6, .row 70 tConflict)]⟩
def merge.parted.j59.k : Sk := ⟨[], 27, [(0, .var (.int .i64)), (4, .ptr 4 0), (5, .ptr 5 0), (7, .row 7), (9, .var (.int .i64))], [(4, .box 27 tElem), (5, .box 27 tElem), (7, .row 70 tConflict)]⟩
def merge.parted.l3.k : Sk := ⟨[], 27, [(0, .var (.int .i64)), (4, .ptr 4 0), (5, .ptr 5 0), (7, .row 7), (9, .var (.int .i64))], [(4, .box 27 tElem), (5, .box 27 tElem), (7, .row 70 tConflict)]⟩
def merge.parted.j59.X (U : AE → St → Prop) (x : Int × Int × Elem × Elem × (List Conflict) × Unit) : Prop := merge.parted.j59 (fun id0 t9 oa4 ob5 ol7 => U .normal (merge.parted.l3.k.mk' (id0, t9, oa4, ob5, ol7, ()))) x.1 x.2.1 x.2.2.1 x.2.2.2.1 x.2.2.2.2.1
def merge.parted.l3.ex : List (AE × Sk) := [((.exit 0), merge.parted.l3xe0)]
def merge.parted.l3.X (Q : AE → St → Prop) (n : Nat) (x : Int × Int × Elem × Elem × (List Conflict) × Unit) : Prop := merge.parted.l3 (fun ol7 => Q (.exit 0) (merge.parted.l3xe0.mk' (ol7, ()))) n x.1 x.2.1 x.2.2.1 x.2.2.2.1 x.2.2.2.2.1
def merge.parted.ct : Cuts := { lp := [(3, fun st Q => merge.parted.l3.k.as st fun x => ∃ n, merge.parted.l3.X Q n x)], jn := [(59, fun st U => merge.parted.j59.k.as st (merge.parted.j59.X U))], ex := [(.ret, merge.parted.xr)], pl := [(5, [.any [] [(0, []), (1, []), (2, []), (3, []), (4, []), (5, []), (6, [])]])] }
def merge.parted.cx : Cx := cxOf tyL byL borL rowL true [(34, chart.Get.F)] [7, 6]
def merge.parted.us : List (Nat × ((AE → St → Prop) → AE → St → Prop)) := [(3, lpV merge.parted.l3.k merge.parted.l3.ex)]
theorem merge.parted.j59.eq (U : AE → St → Prop) (x : merge.parted.j59.k.D) : merge.parted.j59.X U x = awp merge.parted.cx merge.parted.ct (jnAt 59 merge.parted.cx merge.parted.ct Try.f53).code ((lpV merge.parted.l3.k merge.parted.l3.ex) U) ((jnAt 59 merge.parted.cx merge.parted.ct Try.f53).cont ((lpV merge.parted.l3.k merge.parted.l3.ex) U)) (merge.parted.j59.k.mk' x) := by kernel_rfl
theorem merge.parted.j59.jn : JnOk merge.parted.cx merge.parted.ct (usOf merge.parted.ct.ex merge.parted.us) (jnAt 59 merge.parted.cx merge.parted.ct Try.f53) := jn_gen (some 3) (by kernel_rfl) merge.parted.j59.k merge.parted.j59.X (lpV merge.parted.l3.k merge.parted.l3.ex) (by kernel_rfl) (fun U h => h) merge.parted.j59.eq
theorem merge.parted.l3.eq (Q : AE → St → Prop) (n : Nat) (x : merge.parted.l3.k.D) : merge.parted.l3.X Q (n + 1) x = awp merge.parted.cx merge.parted.ct (lpAt 3 Try.f53) (lpQ merge.parted.l3.k (merge.parted.l3.X Q n) merge.parted.l3.ex Q) (lpQ merge.parted.l3.k (merge.parted.l3.X Q n) merge.parted.l3.ex Q) (merge.parted.l3.k.mk' x) := by kernel_rfl
theorem merge.parted.l3.lp : LpOk merge.parted.cx merge.parted.ct (usOf merge.parted.ct.ex merge.parted.us) (lpAt 3 Try.f53) := lp_gen 3 (by kernel_rfl) merge.parted.l3.k merge.parted.l3.ex merge.parted.l3.X (by kernel_rfl) (by intro Q x; kernel_rfl) merge.parted.l3.eq (fun Q n => lpV_lpQ (by kernel_rfl) (by kernel_rfl))
def merge.parted.ps : List PS := [.t (.int .i64), .t tElem, .t tElem]
def merge.parted.G (x : Int × Elem × Elem × Unit) (J : List AV0 → Prop) : Prop := merge.parted x.1 x.2.1 x.2.2.1 (fun r0 => J [.own 70 tConflict r0])
def merge.parted.F : List AV0 → (List AV0 → Prop) → Prop := byPs merge.parted.ps merge.parted.G
theorem merge.parted.eq (x : psD merge.parted.ps) (J : List AV0 → Prop) : merge.parted.G x J = fnA merge.parted.cx merge.parted.ct Try.f53 (psMk merge.parted.ps x) J := by kernel_rfl
theorem merge.parted.good : Go.Iv.Good Try.prog 53 merge.parted.F := good_gen (us := merge.parted.us) (cxOk base rows (l := [(34, chart.Get.F)]) ⟨chart.Get.good, trivial⟩) Try.func53 (by kernel_rfl) (by kernel_rfl) merge.parted.ps merge.parted.G merge.parted.eq (by kernel_rfl) (by kernel_rfl) (L := [lpAt 3 Try.f53]) (M := [jnAt 59 merge.parted.cx merge.parted.ct Try.f53]) (by kernel_rfl) (by kernel_rfl) ⟨merge.parted.l3.lp, trivial⟩ ⟨merge.parted.j59.jn, trivial⟩
def merge.three_Val.ct : Cuts := { lp := [], jn := [], ex := [], pl := [] }
def merge.three_Val.cx : Cx := cxOf tyL byL borL rowL false [] []
def merge.three_Val.us : List (Nat × ((AE → St → Prop) → AE → St → Prop)) := []
def merge.three_Val.ps : List PS := [.t tVal, .t tVal, .t tVal]
def merge.three_Val.G (x : Val × Val × Val × Unit) (J : List AV0 → Prop) : Prop := merge.three_Val x.1 x.2.1 x.2.2.1 (fun r0 => J [.tv (.pair tVal (.pair tVal (.pair tVal .unit))) r0])
def merge.three_Val.F : List AV0 → (List AV0 → Prop) → Prop := byPs merge.three_Val.ps merge.three_Val.G
theorem merge.three_Val.eq (x : psD merge.three_Val.ps) (J : List AV0 → Prop) : merge.three_Val.G x J = fnA merge.three_Val.cx merge.three_Val.ct Try.f54 (psMk merge.three_Val.ps x) J := by kernel_rfl
theorem merge.three_Val.good : Go.Iv.Good Try.prog 54 merge.three_Val.F := good_gen (us := merge.three_Val.us) (cxOk base rows (l := []) trivial) Try.func54 (by kernel_rfl) (by kernel_rfl) merge.three_Val.ps merge.three_Val.G merge.three_Val.eq (by kernel_rfl) (by kernel_rfl) (L := []) (M := []) (by kernel_rfl) (by kernel_rfl) trivial trivial
def merge.Three_Val_Pick.xr : Sk := ⟨[], 29, [(2, .ptr 2 0), (3, .var .bool)], [(2, .box 29 tVal)]⟩
def merge.Three_Val_Pick.j4.k : Sk := ⟨[], 29, [(1, .ptr 1 0), (2, .ptr 2 0), (4, .var .bool)], [(1, .box 109 (.pair tVal (.pair tVal (.pair tVal .unit)))), (2, .box 29 tVal)]⟩
def merge.Three_Val_Pick.j4.X (U : AE → St → Prop) (x : Bool × (Val × (Val × (Val × Unit))) × Val × Unit) : Prop := merge.Three_Val_Pick.j4 (fun t3 ot2 => U .ret (merge.Three_Val_Pick.xr.mk' (t3, ot2, ()))) x.1 x.2.1 x.2.2.1
def merge.Three_Val_Pick.ct : Cuts := { lp := [], jn := [(4, fun st U => merge.Three_Val_Pick.j4.k.as st (merge.Three_Val_Pick.j4.X U))], ex := [(.ret, merge.Three_Val_Pick.xr)], pl := [] }
def merge.Three_Val_Pick.cx : Cx := cxOf tyL byL borL rowL false [] []
def merge.Three_Val_Pick.us : List (Nat × ((AE → St → Prop) → AE → St → Prop)) := []
theorem merge.Three_Val_Pick.j4.eq (U : AE → St → Prop) (x : merge.Three_Val_Pick.j4.k.D) : merge.Three_Val_Pick.j4.X U x = awp merge.Three_Val_Pick.cx merge.Three_Val_Pick.ct (jnAt 4 merge.Three_Val_Pick.cx merge.Three_Val_Pick.ct Try.f55).code ((fnV merge.Three_Val_Pick.ct.ex) U) ((jnAt 4 merge.Three_Val_Pick.cx merge.Three_Val_Pick.ct Try.f55).cont ((fnV merge.Three_Val_Pick.ct.ex) U)) (merge.Three_Val_Pick.j4.k.mk' x) := by kernel_rfl
theorem merge.Three_Val_Pick.j4.jn : JnOk merge.Three_Val_Pick.cx merge.Three_Val_Pick.ct (usOf merge.Three_Val_Pick.ct.ex merge.Three_Val_Pick.us) (jnAt 4 merge.Three_Val_Pick.cx merge.Three_Val_Pick.ct Try.f55) := jn_gen none (by kernel_rfl) merge.Three_Val_Pick.j4.k merge.Three_Val_Pick.j4.X (fnV merge.Three_Val_Pick.ct.ex) (by kernel_rfl) (fun U h => h) merge.Three_Val_Pick.j4.eq
def merge.Three_Val_Pick.ps : List PS := [.t (.pair tVal (.pair tVal (.pair tVal .unit)))]
def merge.Three_Val_Pick.G (x : (Val × (Val × (Val × Unit))) × Unit) (J : List AV0 → Prop) : Prop := merge.Three_Val_Pick x.1 (fun r0 r1 => J [.tv tVal r0, .tv .bool r1])
def merge.Three_Val_Pick.F : List AV0 → (List AV0 → Prop) → Prop := byPs merge.Three_Val_Pick.ps merge.Three_Val_Pick.G
theorem merge.Three_Val_Pick.eq (x : psD merge.Three_Val_Pick.ps) (J : List AV0 → Prop) : merge.Three_Val_Pick.G x J = fnA merge.Three_Val_Pick.cx merge.Three_Val_Pick.ct Try.f55 (psMk merge.Three_Val_Pick.ps x) J := by kernel_rfl
theorem merge.Three_Val_Pick.good : Go.Iv.Good Try.prog 55 merge.Three_Val_Pick.F := good_gen (us := merge.Three_Val_Pick.us) (cxOk base rows (l := []) trivial) Try.func55 (by kernel_rfl) (by kernel_rfl) merge.Three_Val_Pick.ps merge.Three_Val_Pick.G merge.Three_Val_Pick.eq (by kernel_rfl) (by kernel_rfl) (L := []) (M := [jnAt 4 merge.Three_Val_Pick.cx merge.Three_Val_Pick.ct Try.f55]) (by kernel_rfl) (by kernel_rfl) trivial ⟨merge.Three_Val_Pick.j4.jn, trivial⟩
def edit.Of.xr : Sk := ⟨[], 11, [(2, .var (.int .u8))], []⟩
def edit.Of.j33.k : Sk := ⟨[], 11, [(8, .var .bool)], []⟩
def edit.Of.j33.X (U : AE → St → Prop) (x : Bool × Unit) : Prop := edit.Of.j33 (fun t2 => U .ret (edit.Of.xr.mk' (t2, ()))) x.1
def edit.Of.ct : Cuts := { lp := [], jn := [(33, fun st U => edit.Of.j33.k.as st (edit.Of.j33.X U))], ex := [(.ret, edit.Of.xr)], pl := [] }
def edit.Of.cx : Cx := cxOf tyL byL borL rowL false [] []
def edit.Of.us : List (Nat × ((AE → St → Prop) → AE → St → Prop)) := []
theorem edit.Of.j33.eq (U : AE → St → Prop) (x : edit.Of.j33.k.D) : edit.Of.j33.X U x = awp edit.Of.cx edit.Of.ct (jnAt 33 edit.Of.cx edit.Of.ct Try.f56).code ((fnV edit.Of.ct.ex) U) ((jnAt 33 edit.Of.cx edit.Of.ct Try.f56).cont ((fnV edit.Of.ct.ex) U)) (edit.Of.j33.k.mk' x) := by kernel_rfl
theorem edit.Of.j33.jn : JnOk edit.Of.cx edit.Of.ct (usOf edit.Of.ct.ex edit.Of.us) (jnAt 33 edit.Of.cx edit.Of.ct Try.f56) := jn_gen none (by kernel_rfl) edit.Of.j33.k edit.Of.j33.X (fnV edit.Of.ct.ex) (by kernel_rfl) (fun U h => h) edit.Of.j33.eq
def edit.Of.ps : List PS := [.t (.int .i64)]
def edit.Of.G (x : Int × Unit) (J : List AV0 → Prop) : Prop := edit.Of x.1 (fun r0 => J [.tv (.int .u8) r0])
def edit.Of.F : List AV0 → (List AV0 → Prop) → Prop := byPs edit.Of.ps edit.Of.G
theorem edit.Of.eq (x : psD edit.Of.ps) (J : List AV0 → Prop) : edit.Of.G x J = fnA edit.Of.cx edit.Of.ct Try.f56 (psMk edit.Of.ps x) J := by kernel_rfl
theorem edit.Of.good : Go.Iv.Good Try.prog 56 edit.Of.F := good_gen (us := edit.Of.us) (cxOk base rows (l := []) trivial) Try.func56 (by kernel_rfl) (by kernel_rfl) edit.Of.ps edit.Of.G edit.Of.eq (by kernel_rfl) (by kernel_rfl) (L := []) (M := [jnAt 33 edit.Of.cx edit.Of.ct Try.f56]) (by kernel_rfl) (by kernel_rfl) trivial ⟨edit.Of.j33.jn, trivial⟩
def chart.With.xr : Sk := ⟨[], 55, [(6, .ptr 6 0)], [(6, .box 27 tElem)]⟩
def chart.With.j35.k : Sk := ⟨[], 55, [(3, .ptr 3 0), (6, .ptr 6 0)], [(3, .box 27 tElem), (6, .box 27 tElem)]⟩
def chart.With.j35.X (U : AE → St → Prop) (x : Elem × Elem × Unit) : Prop := chart.With.j35 (fun ot6 => U .ret (chart.With.xr.mk' (ot6, ()))) x.1 x.2.1
def chart.With.ct : Cuts := { lp := [], jn := [(35, fun st U => chart.With.j35.k.as st (chart.With.j35.X U))], ex := [(.ret, chart.With.xr)], pl := [] }
def chart.With.cx : Cx := cxOf tyL byL borL rowL false [] []
def chart.With.us : List (Nat × ((AE → St → Prop) → AE → St → Prop)) := []
theorem chart.With.j35.eq (U : AE → St → Prop) (x : chart.With.j35.k.D) : chart.With.j35.X U x = awp chart.With.cx chart.With.ct (jnAt 35 chart.With.cx chart.With.ct Try.f57).code ((fnV chart.With.ct.ex) U) ((jnAt 35 chart.With.cx chart.With.ct Try.f57).cont ((fnV chart.With.ct.ex) U)) (chart.With.j35.k.mk' x) := by kernel_rfl
theorem chart.With.j35.jn : JnOk chart.With.cx chart.With.ct (usOf chart.With.ct.ex chart.With.us) (jnAt 35 chart.With.cx chart.With.ct Try.f57) := jn_gen none (by kernel_rfl) chart.With.j35.k chart.With.j35.X (fnV chart.With.ct.ex) (by kernel_rfl) (fun U h => h) chart.With.j35.eq
def chart.With.ps : List PS := [.t tElem, .t (.int .i64), .t tVal]
def chart.With.G (x : Elem × Int × Val × Unit) (J : List AV0 → Prop) : Prop := chart.With x.1 x.2.1 x.2.2.1 (fun r0 => J [.tv tElem r0])
def chart.With.F : List AV0 → (List AV0 → Prop) → Prop := byPs chart.With.ps chart.With.G
theorem chart.With.eq (x : psD chart.With.ps) (J : List AV0 → Prop) : chart.With.G x J = fnA chart.With.cx chart.With.ct Try.f57 (psMk chart.With.ps x) J := by kernel_rfl
theorem chart.With.good : Go.Iv.Good Try.prog 57 chart.With.F := good_gen (us := chart.With.us) (cxOk base rows (l := []) trivial) Try.func57 (by kernel_rfl) (by kernel_rfl) chart.With.ps chart.With.G chart.With.eq (by kernel_rfl) (by kernel_rfl) (L := []) (M := [jnAt 35 chart.With.cx chart.With.ct Try.f57]) (by kernel_rfl) (by kernel_rfl) trivial ⟨chart.With.j35.jn, trivial⟩
end Go.Iw
