/- The program's functions do what the plain ones do. -/
import Derived.Test.YtggdaoceljekiaaAHd
namespace Go.Iw
open Go.Iv Go.Proofs
attribute [local irreducible] fnA awp
set_option maxHeartbeats 4000000
set_option maxRecDepth 100000
set_option linter.unusedVariables false
def cmp.isNaN_int.ct : Cuts := { lp := [], jn := [], ex := [], pl := [] }
def cmp.isNaN_int.cx : Cx := cxOf tyL byL borL rowL false [] []
def cmp.isNaN_int.us : List (Nat × ((AE → St → Prop) → AE → St → Prop)) := []
def cmp.isNaN_int.ps : List PS := [.t (.int .i64)]
def cmp.isNaN_int.G (x : Int × Unit) (J : List AV0 → Prop) : Prop := cmp.isNaN_int x.1 (fun r0 => J [.tv .bool r0])
def cmp.isNaN_int.F : List AV0 → (List AV0 → Prop) → Prop := byPs cmp.isNaN_int.ps cmp.isNaN_int.G
theorem cmp.isNaN_int.eq (x : psD cmp.isNaN_int.ps) (J : List AV0 → Prop) : cmp.isNaN_int.G x J = fnA cmp.isNaN_int.cx cmp.isNaN_int.ct Try.f53 (psMk cmp.isNaN_int.ps x) J := by kernel_rfl
theorem cmp.isNaN_int.good : Go.Iv.Good Try.prog 53 cmp.isNaN_int.F := good_gen (us := cmp.isNaN_int.us) (cxOk base rows (l := []) trivial) Try.func53 (by kernel_rfl) (by kernel_rfl) cmp.isNaN_int.ps cmp.isNaN_int.G cmp.isNaN_int.eq (by kernel_rfl) (by kernel_rfl) (L := []) (M := []) (by kernel_rfl) (by kernel_rfl) trivial trivial
def cmp.Compare_int.ct : Cuts := { lp := [], jn := [], ex := [], pl := [] }
def cmp.Compare_int.cx : Cx := cxOf tyL byL borL rowL false [(53, cmp.isNaN_int.F)] []
def cmp.Compare_int.us : List (Nat × ((AE → St → Prop) → AE → St → Prop)) := []
def cmp.Compare_int.ps : List PS := [.t (.int .i64), .t (.int .i64)]
def cmp.Compare_int.G (x : Int × Int × Unit) (J : List AV0 → Prop) : Prop := cmp.Compare_int x.1 x.2.1 (fun r0 => J [.tv (.int .i64) r0])
def cmp.Compare_int.F : List AV0 → (List AV0 → Prop) → Prop := byPs cmp.Compare_int.ps cmp.Compare_int.G
theorem cmp.Compare_int.eq (x : psD cmp.Compare_int.ps) (J : List AV0 → Prop) : cmp.Compare_int.G x J = fnA cmp.Compare_int.cx cmp.Compare_int.ct Try.f49 (psMk cmp.Compare_int.ps x) J := by kernel_rfl
theorem cmp.Compare_int.good : Go.Iv.Good Try.prog 49 cmp.Compare_int.F := good_gen (us := cmp.Compare_int.us) (cxOk base rows (l := [(53, cmp.isNaN_int.F)]) ⟨cmp.isNaN_int.good, trivial⟩) Try.func49 (by kernel_rfl) (by kernel_rfl) cmp.Compare_int.ps cmp.Compare_int.G cmp.Compare_int.eq (by kernel_rfl) (by kernel_rfl) (L := []) (M := []) (by kernel_rfl) (by kernel_rfl) trivial trivial
def chart.place_c1.ct : Cuts := { lp := [], jn := [], ex := [], pl := [] }
def chart.place_c1.cx : Cx := cxOf tyL byL borL rowL false [(49, cmp.Compare_int.F)] []
def chart.place_c1.us : List (Nat × ((AE → St → Prop) → AE → St → Prop)) := []
def chart.place_c1.ps : List PS := [.t tElem, .t (.int .i64)]
def chart.place_c1.G (x : Elem × Int × Unit) (J : List AV0 → Prop) : Prop := chart.place_c1 x.1 x.2.1 (fun r0 => J [.tv (.int .i64) r0])
def chart.place_c1.F : List AV0 → (List AV0 → Prop) → Prop := byPs chart.place_c1.ps chart.place_c1.G
theorem chart.place_c1.eq (x : psD chart.place_c1.ps) (J : List AV0 → Prop) : chart.place_c1.G x J = fnA chart.place_c1.cx chart.place_c1.ct Try.f48 (psMk chart.place_c1.ps x) J := by kernel_rfl
theorem chart.place_c1.good : Go.Iv.Good Try.prog 48 chart.place_c1.F := good_gen (us := chart.place_c1.us) (cxOk base rows (l := [(49, cmp.Compare_int.F)]) ⟨cmp.Compare_int.good, trivial⟩) Try.func48 (by kernel_rfl) (by kernel_rfl) chart.place_c1.ps chart.place_c1.G chart.place_c1.eq (by kernel_rfl) (by kernel_rfl) (L := []) (M := []) (by kernel_rfl) (by kernel_rfl) trivial trivial
def slices.BinarySearchFunc_Chart_Elem_int.l3xe0 : Sk := ⟨[], 49, [(0, .var (.sl 23 tElem)), (1, .var (.int .i64)), (2, .fn 48), (8, .var (.int .i64)), (9, .var (.int .i64))], []⟩
def slices.BinarySearchFunc_Chart_Elem_int.l3.k : Sk := ⟨[], 49, [(0, .var (.sl 23 tElem)), (1, .var (.int .i64)), (2, .fn 48), (8, .var (.int .i64)), (9, .var (.int .i64)), (10, .var (.int .i64))], []⟩
def slices.BinarySearchFunc_Chart_Elem_int.l3.ex : List (AE × Sk) := [((.exit 0), slices.BinarySearchFunc_Chart_Elem_int.l3xe0)]
def slices.BinarySearchFunc_Chart_Elem_int.l3.X (Q : AE → St → Prop) (n : Nat) (x : (List Elem) × Int × Int × Int × Int × Unit) : Prop := slices.BinarySearchFunc_Chart_Elem_int.l3 (fun x0 target1 n8 i9 => Q (.exit 0) (slices.BinarySearchFunc_Chart_Elem_int.l3xe0.mk' (x0, target1, n8, i9, ()))) n x.1 x.2.1 x.2.2.1 x.2.2.2.1 x.2.2.2.2.1
def slices.BinarySearchFunc_Chart_Elem_int.ct : Cuts := { lp := [(3, fun st Q => slices.BinarySearchFunc_Chart_Elem_int.l3.k.as st fun x => ∃ n, slices.BinarySearchFunc_Chart_Elem_int.l3.X Q n x)], jn := [], ex := [], pl := [] }
def slices.BinarySearchFunc_Chart_Elem_int.cx : Cx := cxOf tyL byL borL rowL false [(48, chart.place_c1.F)] []
def slices.BinarySearchFunc_Chart_Elem_int.us : List (Nat × ((AE → St → Prop) → AE → St → Prop)) := []
theorem slices.BinarySearchFunc_Chart_Elem_int.l3.eq (Q : AE → St → Prop) (n : Nat) (x : slices.BinarySearchFunc_Chart_Elem_int.l3.k.D) : slices.BinarySearchFunc_Chart_Elem_int.l3.X Q (n + 1) x = awp slices.BinarySearchFunc_Chart_Elem_int.cx slices.BinarySearchFunc_Chart_Elem_int.ct (lpAt 3 Try.f47) (lpQ slices.BinarySearchFunc_Chart_Elem_int.l3.k (slices.BinarySearchFunc_Chart_Elem_int.l3.X Q n) slices.BinarySearchFunc_Chart_Elem_int.l3.ex Q) (lpQ slices.BinarySearchFunc_Chart_Elem_int.l3.k (slices.BinarySearchFunc_Chart_Elem_int.l3.X Q n) slices.BinarySearchFunc_Chart_Elem_int.l3.ex Q) (slices.BinarySearchFunc_Chart_Elem_int.l3.k.mk' x) := by kernel_rfl
theorem slices.BinarySearchFunc_Chart_Elem_int.l3.lp : LpOk slices.BinarySearchFunc_Chart_Elem_int.cx slices.BinarySearchFunc_Chart_Elem_int.ct (usOf slices.BinarySearchFunc_Chart_Elem_int.ct.ex slices.BinarySearchFunc_Chart_Elem_int.us) (lpAt 3 Try.f47) := lp_gen 3 (by kernel_rfl) slices.BinarySearchFunc_Chart_Elem_int.l3.k slices.BinarySearchFunc_Chart_Elem_int.l3.ex slices.BinarySearchFunc_Chart_Elem_int.l3.X (by kernel_rfl) (by intro Q x; kernel_rfl) slices.BinarySearchFunc_Chart_Elem_int.l3.eq (fun _ _ => trivial)
def slices.BinarySearchFunc_Chart_Elem_int.ps : List PS := [.t (.sl 23 tElem), .t (.int .i64), .fn 48]
def slices.BinarySearchFunc_Chart_Elem_int.G (x : (List Elem) × Int × Unit) (J : List AV0 → Prop) : Prop := slices.BinarySearchFunc_Chart_Elem_int x.1 x.2.1 (fun r0 r1 => J [.tv (.int .i64) r0, .tv .bool r1])
def slices.BinarySearchFunc_Chart_Elem_int.F : List AV0 → (List AV0 → Prop) → Prop := byPs slices.BinarySearchFunc_Chart_Elem_int.ps slices.BinarySearchFunc_Chart_Elem_int.G
theorem slices.BinarySearchFunc_Chart_Elem_int.eq (x : psD slices.BinarySearchFunc_Chart_Elem_int.ps) (J : List AV0 → Prop) : slices.BinarySearchFunc_Chart_Elem_int.G x J = fnA slices.BinarySearchFunc_Chart_Elem_int.cx slices.BinarySearchFunc_Chart_Elem_int.ct Try.f47 (psMk slices.BinarySearchFunc_Chart_Elem_int.ps x) J := by kernel_rfl
theorem slices.BinarySearchFunc_Chart_Elem_int.good : Go.Iv.Good Try.prog 47 slices.BinarySearchFunc_Chart_Elem_int.F := good_gen (us := slices.BinarySearchFunc_Chart_Elem_int.us) (cxOk base rows (l := [(48, chart.place_c1.F)]) ⟨chart.place_c1.good, trivial⟩) Try.func47 (by kernel_rfl) (by kernel_rfl) slices.BinarySearchFunc_Chart_Elem_int.ps slices.BinarySearchFunc_Chart_Elem_int.G slices.BinarySearchFunc_Chart_Elem_int.eq (by kernel_rfl) (by kernel_rfl) (L := [lpAt 3 Try.f47]) (M := []) (by kernel_rfl) (by kernel_rfl) ⟨slices.BinarySearchFunc_Chart_Elem_int.l3.lp, trivial⟩ trivial
def chart.place.ct : Cuts := { lp := [], jn := [], ex := [], pl := [] }
def chart.place.cx : Cx := cxOf tyL byL borL rowL false [(47, slices.BinarySearchFunc_Chart_Elem_int.F)] []
def chart.place.us : List (Nat × ((AE → St → Prop) → AE → St → Prop)) := []
def chart.place.ps : List PS := [.t (.sl 23 tElem), .t (.int .i64)]
def chart.place.G (x : (List Elem) × Int × Unit) (J : List AV0 → Prop) : Prop := chart.place x.1 x.2.1 (fun r0 r1 => J [.tv (.int .i64) r0, .tv .bool r1])
def chart.place.F : List AV0 → (List AV0 → Prop) → Prop := byPs chart.place.ps chart.place.G
theorem chart.place.eq (x : psD chart.place.ps) (J : List AV0 → Prop) : chart.place.G x J = fnA chart.place.cx chart.place.ct Try.f42 (psMk chart.place.ps x) J := by kernel_rfl
theorem chart.place.good : Go.Iv.Good Try.prog 42 chart.place.F := good_gen (us := chart.place.us) (cxOk base rows (l := [(47, slices.BinarySearchFunc_Chart_Elem_int.F)]) ⟨slices.BinarySearchFunc_Chart_Elem_int.good, trivial⟩) Try.func42 (by kernel_rfl) (by kernel_rfl) chart.place.ps chart.place.G chart.place.eq (by kernel_rfl) (by kernel_rfl) (L := []) (M := []) (by kernel_rfl) (by kernel_rfl) trivial trivial
def chart.Put.ct : Cuts := { lp := [], jn := [], ex := [], pl := [] }
def chart.Put.cx : Cx := cxOf tyL byL borL rowL true [(42, chart.place.F)] [7, 4]
def chart.Put.us : List (Nat × ((AE → St → Prop) → AE → St → Prop)) := []
def chart.Put.ps : List PS := [.t (.sl 23 tElem), .t tElem]
def chart.Put.G (x : (List Elem) × Elem × Unit) (J : List AV0 → Prop) : Prop := chart.Put x.1 x.2.1 (fun r0 => J [.own 23 tElem r0])
def chart.Put.F : List AV0 → (List AV0 → Prop) → Prop := byPs chart.Put.ps chart.Put.G
theorem chart.Put.eq (x : psD chart.Put.ps) (J : List AV0 → Prop) : chart.Put.G x J = fnA chart.Put.cx chart.Put.ct Try.f27 (psMk chart.Put.ps x) J := by kernel_rfl
theorem chart.Put.good : Go.Iv.Good Try.prog 27 chart.Put.F := good_gen (us := chart.Put.us) (cxOk base rows (l := [(42, chart.place.F)]) ⟨chart.place.good, trivial⟩) Try.func27 (by kernel_rfl) (by kernel_rfl) chart.Put.ps chart.Put.G chart.Put.eq (by kernel_rfl) (by kernel_rfl) (L := []) (M := []) (by kernel_rfl) (by kernel_rfl) trivial trivial
def law09.awake.ct : Cuts := { lp := [], jn := [], ex := [], pl := [] }
def law09.awake.cx : Cx := cxOf tyL byL borL rowL false [(27, chart.Put.F)] [1]
def law09.awake.us : List (Nat × ((AE → St → Prop) → AE → St → Prop)) := []
def law09.awake.ps : List PS := []
def law09.awake.G (x : Unit) (J : List AV0 → Prop) : Prop := law09.awake (fun r0 => J [.tv .bool r0])
def law09.awake.F : List AV0 → (List AV0 → Prop) → Prop := byPs law09.awake.ps law09.awake.G
theorem law09.awake.eq (x : psD law09.awake.ps) (J : List AV0 → Prop) : law09.awake.G x J = fnA law09.awake.cx law09.awake.ct Try.f24 (psMk law09.awake.ps x) J := by kernel_rfl
theorem law09.awake.good : Go.Iv.Good Try.prog 24 law09.awake.F := good_gen (us := law09.awake.us) (cxOk base rows (l := [(27, chart.Put.F)]) ⟨chart.Put.good, trivial⟩) Try.func24 (by kernel_rfl) (by kernel_rfl) law09.awake.ps law09.awake.G law09.awake.eq (by kernel_rfl) (by kernel_rfl) (L := []) (M := []) (by kernel_rfl) (by kernel_rfl) trivial trivial
def r09.Put.l4xe0 : Sk := ⟨[], 52, [(3, .ptr 3 0), (5, .row 5), (6, .var .bool)], [(3, .box 23 tElem), (5, .row 23 tElem)]⟩
def r09.Put.xr : Sk := ⟨[], 52, [(4, .row 4)], [(4, .row 23 tElem)]⟩
def r09.Put.j91.k : Sk := ⟨[], 52, [(0, .var (.sl 23 tElem)), (3, .ptr 3 0), (5, .row 5), (6, .var .bool), (7, .var (.int .i64))], [(3, .box 23 tElem), (5, .row 23 tElem)]⟩
def r09.Put.j37.k : Sk := ⟨[], 52, [(0, .var (.sl 23 tElem)), (3, .ptr 3 0), (5, .row 5), (6, .var .bool), (7, .var (.int .i64))], [(3, .box 23 tElem), (5, .row 23 tElem)]⟩
def r09.Put.j14.k : Sk := ⟨[], 52, [(0, .var (.sl 23 tElem)), (3, .ptr 3 0), (5, .row 5), (6, .var .bool), (7, .var (.int .i64)), (25, .var .bool)], [(3, .box 23 tElem), (5, .row 23 tElem)]⟩
def r09.Put.l4.k : Sk := ⟨[], 52, [(0, .var (.sl 23 tElem)), (3, .ptr 3 0), (5, .row 5), (6, .var .bool), (7, .var (.int .i64))], [(3, .box 23 tElem), (5, .row 23 tElem)]⟩
def r09.Put.j53.k : Sk := ⟨[], 52, [(5, .row 5)], [(5, .row 23 tElem)]⟩
def r09.Put.j91.X (U : AE → St → Prop) (x : (List Elem) × Bool × Int × Elem × (List Elem) × Unit) : Prop := r09.Put.j91 (fun c0 done6 i7 oe3 oout5 => U .normal (r09.Put.l4.k.mk' (c0, done6, i7, oe3, oout5, ()))) x.1 x.2.1 x.2.2.1 x.2.2.2.1 x.2.2.2.2.1
def r09.Put.j37.X (U : AE → St → Prop) (x : (List Elem) × Bool × Int × Elem × (List Elem) × Unit) : Prop := r09.Put.j37 (fun c0 done6 i7 oe3 oout5 => U .normal (r09.Put.l4.k.mk' (c0, done6, i7, oe3, oout5, ()))) x.1 x.2.1 x.2.2.1 x.2.2.2.1 x.2.2.2.2.1
def r09.Put.j14.X (U : AE → St → Prop) (x : (List Elem) × Bool × Int × Bool × Elem × (List Elem) × Unit) : Prop := r09.Put.j14 (fun c0 done6 i7 oe3 oout5 => U .normal (r09.Put.l4.k.mk' (c0, done6, i7, oe3, oout5, ()))) x.1 x.2.1 x.2.2.1 x.2.2.2.1 x.2.2.2.2.1 x.2.2.2.2.2.1
def r09.Put.l4.ex : List (AE × Sk) := [((.exit 0), r09.Put.l4xe0)]
def r09.Put.l4.X (Q : AE → St → Prop) (n : Nat) (x : (List Elem) × Bool × Int × Elem × (List Elem) × Unit) : Prop := r09.Put.l4 (fun done6 oe3 oout5 => Q (.exit 0) (r09.Put.l4xe0.mk' (done6, oe3, oout5, ()))) n x.1 x.2.1 x.2.2.1 x.2.2.2.1 x.2.2.2.2.1
def r09.Put.j53.X (U : AE → St → Prop) (x : (List Elem) × Unit) : Prop := r09.Put.j53 (fun ot4 => U .ret (r09.Put.xr.mk' (ot4, ()))) x.1
def r09.Put.ct : Cuts := { lp := [(4, fun st Q => r09.Put.l4.k.as st fun x => ∃ n, r09.Put.l4.X Q n x)], jn := [(14, fun st U => r09.Put.j14.k.as st (r09.Put.j14.X U)), (37, fun st U => r09.Put.j37.k.as st (r09.Put.j37.X U)), (91, fun st U => r09.Put.j91.k.as st (r09.Put.j91.X U)), (53, fun st U => r09.Put.j53.k.as st (r09.Put.j53.X U))], ex := [(.ret, r09.Put.xr)], pl := [(6, [.any [] [(0, []), (1, []), (2, []), (3, []), (4, []), (5, []), (6, []), (7, []), (8, []), (9, []), (10, []), (11, [])]]), (9, [.any [] [(0, []), (1, []), (2, []), (3, []), (4, []), (5, []), (6, []), (7, [])]])] }
def r09.Put.cx : Cx := cxOf tyL byL borL rowL true [] [5, 4]
def r09.Put.us : List (Nat × ((AE → St → Prop) → AE → St → Prop)) := [(4, lpV r09.Put.l4.k r09.Put.l4.ex)]
theorem r09.Put.j91.eq (U : AE → St → Prop) (x : r09.Put.j91.k.D) : r09.Put.j91.X U x = awp r09.Put.cx r09.Put.ct (jnAt 91 r09.Put.cx r09.Put.ct Try.f32).code ((lpV r09.Put.l4.k r09.Put.l4.ex) U) ((jnAt 91 r09.Put.cx r09.Put.ct Try.f32).cont ((lpV r09.Put.l4.k r09.Put.l4.ex) U)) (r09.Put.j91.k.mk' x) := by kernel_rfl
theorem r09.Put.j91.jn : JnOk r09.Put.cx r09.Put.ct (usOf r09.Put.ct.ex r09.Put.us) (jnAt 91 r09.Put.cx r09.Put.ct Try.f32) := jn_gen (some 4) (by kernel_rfl) r09.Put.j91.k r09.Put.j91.X (lpV r09.Put.l4.k r09.Put.l4.ex) (by kernel_rfl) (fun U h => h) r09.Put.j91.eq
theorem r09.Put.j37.eq (U : AE → St → Prop) (x : r09.Put.j37.k.D) : r09.Put.j37.X U x = awp r09.Put.cx r09.Put.ct (jnAt 37 r09.Put.cx r09.Put.ct Try.f32).code ((lpV r09.Put.l4.k r09.Put.l4.ex) U) ((jnAt 37 r09.Put.cx r09.Put.ct Try.f32).cont ((lpV r09.Put.l4.k r09.Put.l4.ex) U)) (r09.Put.j37.k.mk' x) := by kernel_rfl
theorem r09.Put.j37.jn : JnOk r09.Put.cx r09.Put.ct (usOf r09.Put.ct.ex r09.Put.us) (jnAt 37 r09.Put.cx r09.Put.ct Try.f32) := jn_gen (some 4) (by kernel_rfl) r09.Put.j37.k r09.Put.j37.X (lpV r09.Put.l4.k r09.Put.l4.ex) (by kernel_rfl) (fun U h => h) r09.Put.j37.eq
theorem r09.Put.j14.eq (U : AE → St → Prop) (x : r09.Put.j14.k.D) : r09.Put.j14.X U x = awp r09.Put.cx r09.Put.ct (jnAt 14 r09.Put.cx r09.Put.ct Try.f32).code ((lpV r09.Put.l4.k r09.Put.l4.ex) U) ((jnAt 14 r09.Put.cx r09.Put.ct Try.f32).cont ((lpV r09.Put.l4.k r09.Put.l4.ex) U)) (r09.Put.j14.k.mk' x) := by kernel_rfl
theorem r09.Put.j14.jn : JnOk r09.Put.cx r09.Put.ct (usOf r09.Put.ct.ex r09.Put.us) (jnAt 14 r09.Put.cx r09.Put.ct Try.f32) := jn_gen (some 4) (by kernel_rfl) r09.Put.j14.k r09.Put.j14.X (lpV r09.Put.l4.k r09.Put.l4.ex) (by kernel_rfl) (fun U h => h) r09.Put.j14.eq
theorem r09.Put.l4.eq (Q : AE → St → Prop) (n : Nat) (x : r09.Put.l4.k.D) : r09.Put.l4.X Q (n + 1) x = awp r09.Put.cx r09.Put.ct (lpAt 4 Try.f32) (lpQ r09.Put.l4.k (r09.Put.l4.X Q n) r09.Put.l4.ex Q) (lpQ r09.Put.l4.k (r09.Put.l4.X Q n) r09.Put.l4.ex Q) (r09.Put.l4.k.mk' x) := by kernel_rfl
theorem r09.Put.l4.lp : LpOk r09.Put.cx r09.Put.ct (usOf r09.Put.ct.ex r09.Put.us) (lpAt 4 Try.f32) := lp_gen 4 (by kernel_rfl) r09.Put.l4.k r09.Put.l4.ex r09.Put.l4.X (by kernel_rfl) (by intro Q x; kernel_rfl) r09.Put.l4.eq (fun Q n => lpV_lpQ (by kernel_rfl) (by kernel_rfl))
theorem r09.Put.j53.eq (U : AE → St → Prop) (x : r09.Put.j53.k.D) : r09.Put.j53.X U x = awp r09.Put.cx r09.Put.ct (jnAt 53 r09.Put.cx r09.Put.ct Try.f32).code ((fnV r09.Put.ct.ex) U) ((jnAt 53 r09.Put.cx r09.Put.ct Try.f32).cont ((fnV r09.Put.ct.ex) U)) (r09.Put.j53.k.mk' x) := by kernel_rfl
theorem r09.Put.j53.jn : JnOk r09.Put.cx r09.Put.ct (usOf r09.Put.ct.ex r09.Put.us) (jnAt 53 r09.Put.cx r09.Put.ct Try.f32) := jn_gen none (by kernel_rfl) r09.Put.j53.k r09.Put.j53.X (fnV r09.Put.ct.ex) (by kernel_rfl) (fun U h => h) r09.Put.j53.eq
def r09.Put.ps : List PS := [.t (.sl 23 tElem), .t tElem]
def r09.Put.G (x : (List Elem) × Elem × Unit) (J : List AV0 → Prop) : Prop := r09.Put x.1 x.2.1 (fun r0 => J [.own 23 tElem r0])
def r09.Put.F : List AV0 → (List AV0 → Prop) → Prop := byPs r09.Put.ps r09.Put.G
theorem r09.Put.eq (x : psD r09.Put.ps) (J : List AV0 → Prop) : r09.Put.G x J = fnA r09.Put.cx r09.Put.ct Try.f32 (psMk r09.Put.ps x) J := by kernel_rfl
theorem r09.Put.good : Go.Iv.Good Try.prog 32 r09.Put.F := good_gen (us := r09.Put.us) (cxOk base rows (l := []) trivial) Try.func32 (by kernel_rfl) (by kernel_rfl) r09.Put.ps r09.Put.G r09.Put.eq (by kernel_rfl) (by kernel_rfl) (L := [lpAt 4 Try.f32]) (M := [jnAt 14 r09.Put.cx r09.Put.ct Try.f32, jnAt 37 r09.Put.cx r09.Put.ct Try.f32, jnAt 91 r09.Put.cx r09.Put.ct Try.f32, jnAt 53 r09.Put.cx r09.Put.ct Try.f32]) (by kernel_rfl) (by kernel_rfl) ⟨r09.Put.l4.lp, trivial⟩ ⟨r09.Put.j14.jn, r09.Put.j37.jn, r09.Put.j91.jn, r09.Put.j53.jn, trivial⟩
def law09.rising.l3xe0 : Sk := ⟨[], 18, [(3, .row 3)], [(3, .row 23 tElem)]⟩
def law09.rising.l3.k : Sk := ⟨[], 18, [(0, .var (.sl 23 tElem)), (3, .row 3), (4, .var (.int .i64))], [(3, .row 23 tElem)]⟩
def law09.rising.l3.ex : List (AE × Sk) := [((.exit 0), law09.rising.l3xe0)]
def law09.rising.l3.X (Q : AE → St → Prop) (n : Nat) (x : (List Elem) × Int × (List Elem) × Unit) : Prop := law09.rising.l3 (fun oc3 => Q (.exit 0) (law09.rising.l3xe0.mk' (oc3, ()))) n x.1 x.2.1 x.2.2.1
def law09.rising.ct : Cuts := { lp := [(3, fun st Q => law09.rising.l3.k.as st fun x => ∃ n, law09.rising.l3.X Q n x)], jn := [], ex := [], pl := [] }
def law09.rising.cx : Cx := cxOf tyL byL borL rowL true [(32, r09.Put.F)] [3, 2]
def law09.rising.us : List (Nat × ((AE → St → Prop) → AE → St → Prop)) := []
theorem law09.rising.l3.eq (Q : AE → St → Prop) (n : Nat) (x : law09.rising.l3.k.D) : law09.rising.l3.X Q (n + 1) x = awp law09.rising.cx law09.rising.ct (lpAt 3 Try.f25) (lpQ law09.rising.l3.k (law09.rising.l3.X Q n) law09.rising.l3.ex Q) (lpQ law09.rising.l3.k (law09.rising.l3.X Q n) law09.rising.l3.ex Q) (law09.rising.l3.k.mk' x) := by kernel_rfl
theorem law09.rising.l3.lp : LpOk law09.rising.cx law09.rising.ct (usOf law09.rising.ct.ex law09.rising.us) (lpAt 3 Try.f25) := lp_gen 3 (by kernel_rfl) law09.rising.l3.k law09.rising.l3.ex law09.rising.l3.X (by kernel_rfl) (by intro Q x; kernel_rfl) law09.rising.l3.eq (fun _ _ => trivial)
def law09.rising.ps : List PS := [.t (.sl 23 tElem)]
def law09.rising.G (x : (List Elem) × Unit) (J : List AV0 → Prop) : Prop := law09.rising x.1 (fun r0 => J [.own 23 tElem r0])
def law09.rising.F : List AV0 → (List AV0 → Prop) → Prop := byPs law09.rising.ps law09.rising.G
theorem law09.rising.eq (x : psD law09.rising.ps) (J : List AV0 → Prop) : law09.rising.G x J = fnA law09.rising.cx law09.rising.ct Try.f25 (psMk law09.rising.ps x) J := by kernel_rfl
theorem law09.rising.good : Go.Iv.Good Try.prog 25 law09.rising.F := good_gen (us := law09.rising.us) (cxOk base rows (l := [(32, r09.Put.F)]) ⟨r09.Put.good, trivial⟩) Try.func25 (by kernel_rfl) (by kernel_rfl) law09.rising.ps law09.rising.G law09.rising.eq (by kernel_rfl) (by kernel_rfl) (L := [lpAt 3 Try.f25]) (M := []) (by kernel_rfl) (by kernel_rfl) ⟨law09.rising.l3.lp, trivial⟩ trivial
def chart.Find.ct : Cuts := { lp := [], jn := [], ex := [], pl := [] }
def chart.Find.cx : Cx := cxOf tyL byL borL rowL false [(42, chart.place.F)] []
def chart.Find.us : List (Nat × ((AE → St → Prop) → AE → St → Prop)) := []
def chart.Find.ps : List PS := [.t (.sl 23 tElem), .t (.int .i64)]
def chart.Find.G (x : (List Elem) × Int × Unit) (J : List AV0 → Prop) : Prop := chart.Find x.1 x.2.1 (fun r0 r1 => J [.tv tElem r0, .tv .bool r1])
def chart.Find.F : List AV0 → (List AV0 → Prop) → Prop := byPs chart.Find.ps chart.Find.G
theorem chart.Find.eq (x : psD chart.Find.ps) (J : List AV0 → Prop) : chart.Find.G x J = fnA chart.Find.cx chart.Find.ct Try.f28 (psMk chart.Find.ps x) J := by kernel_rfl
theorem chart.Find.good : Go.Iv.Good Try.prog 28 chart.Find.F := good_gen (us := chart.Find.us) (cxOk base rows (l := [(42, chart.place.F)]) ⟨chart.place.good, trivial⟩) Try.func28 (by kernel_rfl) (by kernel_rfl) chart.Find.ps chart.Find.G chart.Find.eq (by kernel_rfl) (by kernel_rfl) (L := []) (M := []) (by kernel_rfl) (by kernel_rfl) trivial trivial
def r09.Find.l2xr : Sk := ⟨[], 20, [(4, .var (.int .i64))], []⟩
def r09.Find.l2xe0 : Sk := ⟨[], 20, [], []⟩
def r09.Find.l2.k : Sk := ⟨[], 20, [(0, .var (.sl 23 tElem)), (1, .var (.int .i64)), (5, .var (.int .i64))], []⟩
def r09.Find.l2.ex : List (AE × Sk) := [(.ret, r09.Find.l2xr), ((.exit 0), r09.Find.l2xe0)]
def r09.Find.l2.X (Q : AE → St → Prop) (n : Nat) (x : (List Elem) × Int × Int × Unit) : Prop := r09.Find.l2 (fun t4 => Q .ret (r09.Find.l2xr.mk' (t4, ()))) (Q (.exit 0) (r09.Find.l2xe0.mk' ())) n x.1 x.2.1 x.2.2.1
def r09.Find.ct : Cuts := { lp := [(2, fun st Q => r09.Find.l2.k.as st fun x => ∃ n, r09.Find.l2.X Q n x)], jn := [], ex := [], pl := [] }
def r09.Find.cx : Cx := cxOf tyL byL borL rowL false [] []
def r09.Find.us : List (Nat × ((AE → St → Prop) → AE → St → Prop)) := []
theorem r09.Find.l2.eq (Q : AE → St → Prop) (n : Nat) (x : r09.Find.l2.k.D) : r09.Find.l2.X Q (n + 1) x = awp r09.Find.cx r09.Find.ct (lpAt 2 Try.f29) (lpQ r09.Find.l2.k (r09.Find.l2.X Q n) r09.Find.l2.ex Q) (lpQ r09.Find.l2.k (r09.Find.l2.X Q n) r09.Find.l2.ex Q) (r09.Find.l2.k.mk' x) := by kernel_rfl
theorem r09.Find.l2.lp : LpOk r09.Find.cx r09.Find.ct (usOf r09.Find.ct.ex r09.Find.us) (lpAt 2 Try.f29) := lp_gen 2 (by kernel_rfl) r09.Find.l2.k r09.Find.l2.ex r09.Find.l2.X (by kernel_rfl) (by intro Q x; kernel_rfl) r09.Find.l2.eq (fun _ _ => trivial)
def r09.Find.ps : List PS := [.t (.sl 23 tElem), .t (.int .i64)]
def r09.Find.G (x : (List Elem) × Int × Unit) (J : List AV0 → Prop) : Prop := r09.Find x.1 x.2.1 (fun r0 => J [.tv (.int .i64) r0])
def r09.Find.F : List AV0 → (List AV0 → Prop) → Prop := byPs r09.Find.ps r09.Find.G
theorem r09.Find.eq (x : psD r09.Find.ps) (J : List AV0 → Prop) : r09.Find.G x J = fnA r09.Find.cx r09.Find.ct Try.f29 (psMk r09.Find.ps x) J := by kernel_rfl
theorem r09.Find.good : Go.Iv.Good Try.prog 29 r09.Find.F := good_gen (us := r09.Find.us) (cxOk base rows (l := []) trivial) Try.func29 (by kernel_rfl) (by kernel_rfl) r09.Find.ps r09.Find.G r09.Find.eq (by kernel_rfl) (by kernel_rfl) (L := [lpAt 2 Try.f29]) (M := []) (by kernel_rfl) (by kernel_rfl) ⟨r09.Find.l2.lp, trivial⟩ trivial
def chart.Drop.ct : Cuts := { lp := [], jn := [], ex := [], pl := [] }
def chart.Drop.cx : Cx := cxOf tyL byL borL rowL true [(42, chart.place.F)] [4]
def chart.Drop.us : List (Nat × ((AE → St → Prop) → AE → St → Prop)) := []
def chart.Drop.ps : List PS := [.t (.sl 23 tElem), .t (.int .i64)]
def chart.Drop.G (x : (List Elem) × Int × Unit) (J : List AV0 → Prop) : Prop := chart.Drop x.1 x.2.1 (fun r0 => J [.own 23 tElem r0])
def chart.Drop.F : List AV0 → (List AV0 → Prop) → Prop := byPs chart.Drop.ps chart.Drop.G
theorem chart.Drop.eq (x : psD chart.Drop.ps) (J : List AV0 → Prop) : chart.Drop.G x J = fnA chart.Drop.cx chart.Drop.ct Try.f30 (psMk chart.Drop.ps x) J := by kernel_rfl
theorem chart.Drop.good : Go.Iv.Good Try.prog 30 chart.Drop.F := good_gen (us := chart.Drop.us) (cxOk base rows (l := [(42, chart.place.F)]) ⟨chart.place.good, trivial⟩) Try.func30 (by kernel_rfl) (by kernel_rfl) chart.Drop.ps chart.Drop.G chart.Drop.eq (by kernel_rfl) (by kernel_rfl) (L := []) (M := []) (by kernel_rfl) (by kernel_rfl) trivial trivial
def r09.Same.l4xr : Sk := ⟨[], 26, [(4, .var .bool)], []⟩
def r09.Same.l4xe0 : Sk := ⟨[], 26, [], []⟩
def r09.Same.l4.k : Sk := ⟨[], 26, [(0, .var (.sl 23 tElem)), (1, .var (.sl 23 tElem)), (5, .var (.int .i64))], []⟩
def r09.Same.l4.ex : List (AE × Sk) := [(.ret, r09.Same.l4xr), ((.exit 0), r09.Same.l4xe0)]
def r09.Same.l4.X (Q : AE → St → Prop) (n : Nat) (x : (List Elem) × (List Elem) × Int × Unit) : Prop := r09.Same.l4 (fun t4 => Q .ret (r09.Same.l4xr.mk' (t4, ()))) (Q (.exit 0) (r09.Same.l4xe0.mk' ())) n x.1 x.2.1 x.2.2.1
def r09.Same.ct : Cuts := { lp := [(4, fun st Q => r09.Same.l4.k.as st fun x => ∃ n, r09.Same.l4.X Q n x)], jn := [], ex := [], pl := [(6, [.any [] [(0, []), (1, []), (2, []), (3, []), (4, []), (5, []), (6, []), (7, []), (8, [])]])] }
def r09.Same.cx : Cx := cxOf tyL byL borL rowL false [] []
def r09.Same.us : List (Nat × ((AE → St → Prop) → AE → St → Prop)) := []
theorem r09.Same.l4.eq (Q : AE → St → Prop) (n : Nat) (x : r09.Same.l4.k.D) : r09.Same.l4.X Q (n + 1) x = awp r09.Same.cx r09.Same.ct (lpAt 4 Try.f31) (lpQ r09.Same.l4.k (r09.Same.l4.X Q n) r09.Same.l4.ex Q) (lpQ r09.Same.l4.k (r09.Same.l4.X Q n) r09.Same.l4.ex Q) (r09.Same.l4.k.mk' x) := by kernel_rfl
theorem r09.Same.l4.lp : LpOk r09.Same.cx r09.Same.ct (usOf r09.Same.ct.ex r09.Same.us) (lpAt 4 Try.f31) := lp_gen 4 (by kernel_rfl) r09.Same.l4.k r09.Same.l4.ex r09.Same.l4.X (by kernel_rfl) (by intro Q x; kernel_rfl) r09.Same.l4.eq (fun _ _ => trivial)
def r09.Same.ps : List PS := [.t (.sl 23 tElem), .t (.sl 23 tElem)]
def r09.Same.G (x : (List Elem) × (List Elem) × Unit) (J : List AV0 → Prop) : Prop := r09.Same x.1 x.2.1 (fun r0 => J [.tv .bool r0])
def r09.Same.F : List AV0 → (List AV0 → Prop) → Prop := byPs r09.Same.ps r09.Same.G
theorem r09.Same.eq (x : psD r09.Same.ps) (J : List AV0 → Prop) : r09.Same.G x J = fnA r09.Same.cx r09.Same.ct Try.f31 (psMk r09.Same.ps x) J := by kernel_rfl
theorem r09.Same.good : Go.Iv.Good Try.prog 31 r09.Same.F := good_gen (us := r09.Same.us) (cxOk base rows (l := []) trivial) Try.func31 (by kernel_rfl) (by kernel_rfl) r09.Same.ps r09.Same.G r09.Same.eq (by kernel_rfl) (by kernel_rfl) (L := [lpAt 4 Try.f31]) (M := []) (by kernel_rfl) (by kernel_rfl) ⟨r09.Same.l4.lp, trivial⟩ trivial
def r09.Drop.l3xe0 : Sk := ⟨[], 28, [(5, .row 5)], [(5, .row 23 tElem)]⟩
def r09.Drop.xr : Sk := ⟨[], 28, [(4, .row 4)], [(4, .row 23 tElem)]⟩
def r09.Drop.j59.k : Sk := ⟨[], 28, [(0, .var (.sl 23 tElem)), (1, .var (.int .i64)), (5, .row 5), (6, .var (.int .i64))], [(5, .row 23 tElem)]⟩
def r09.Drop.l3.k : Sk := ⟨[], 28, [(0, .var (.sl 23 tElem)), (1, .var (.int .i64)), (5, .row 5), (6, .var (.int .i64))], [(5, .row 23 tElem)]⟩
def r09.Drop.j59.X (U : AE → St → Prop) (x : (List Elem) × Int × Int × (List Elem) × Unit) : Prop := r09.Drop.j59 (fun c0 id1 i6 oout5 => U .normal (r09.Drop.l3.k.mk' (c0, id1, i6, oout5, ()))) x.1 x.2.1 x.2.2.1 x.2.2.2.1
def r09.Drop.l3.ex : List (AE × Sk) := [((.exit 0), r09.Drop.l3xe0)]
def r09.Drop.l3.X (Q : AE → St → Prop) (n : Nat) (x : (List Elem) × Int × Int × (List Elem) × Unit) : Prop := r09.Drop.l3 (fun oout5 => Q (.exit 0) (r09.Drop.l3xe0.mk' (oout5, ()))) n x.1 x.2.1 x.2.2.1 x.2.2.2.1
def r09.Drop.ct : Cuts := { lp := [(3, fun st Q => r09.Drop.l3.k.as st fun x => ∃ n, r09.Drop.l3.X Q n x)], jn := [(59, fun st U => r09.Drop.j59.k.as st (r09.Drop.j59.X U))], ex := [(.ret, r09.Drop.xr)], pl := [] }
def r09.Drop.cx : Cx := cxOf tyL byL borL rowL true [] [5, 4]
def r09.Drop.us : List (Nat × ((AE → St → Prop) → AE → St → Prop)) := [(3, lpV r09.Drop.l3.k r09.Drop.l3.ex)]
theorem r09.Drop.j59.eq (U : AE → St → Prop) (x : r09.Drop.j59.k.D) : r09.Drop.j59.X U x = awp r09.Drop.cx r09.Drop.ct (jnAt 59 r09.Drop.cx r09.Drop.ct Try.f33).code ((lpV r09.Drop.l3.k r09.Drop.l3.ex) U) ((jnAt 59 r09.Drop.cx r09.Drop.ct Try.f33).cont ((lpV r09.Drop.l3.k r09.Drop.l3.ex) U)) (r09.Drop.j59.k.mk' x) := by kernel_rfl
theorem r09.Drop.j59.jn : JnOk r09.Drop.cx r09.Drop.ct (usOf r09.Drop.ct.ex r09.Drop.us) (jnAt 59 r09.Drop.cx r09.Drop.ct Try.f33) := jn_gen (some 3) (by kernel_rfl) r09.Drop.j59.k r09.Drop.j59.X (lpV r09.Drop.l3.k r09.Drop.l3.ex) (by kernel_rfl) (fun U h => h) r09.Drop.j59.eq
theorem r09.Drop.l3.eq (Q : AE → St → Prop) (n : Nat) (x : r09.Drop.l3.k.D) : r09.Drop.l3.X Q (n + 1) x = awp r09.Drop.cx r09.Drop.ct (lpAt 3 Try.f33) (lpQ r09.Drop.l3.k (r09.Drop.l3.X Q n) r09.Drop.l3.ex Q) (lpQ r09.Drop.l3.k (r09.Drop.l3.X Q n) r09.Drop.l3.ex Q) (r09.Drop.l3.k.mk' x) := by kernel_rfl
theorem r09.Drop.l3.lp : LpOk r09.Drop.cx r09.Drop.ct (usOf r09.Drop.ct.ex r09.Drop.us) (lpAt 3 Try.f33) := lp_gen 3 (by kernel_rfl) r09.Drop.l3.k r09.Drop.l3.ex r09.Drop.l3.X (by kernel_rfl) (by intro Q x; kernel_rfl) r09.Drop.l3.eq (fun Q n => lpV_lpQ (by kernel_rfl) (by kernel_rfl))
def r09.Drop.ps : List PS := [.t (.sl 23 tElem), .t (.int .i64)]
def r09.Drop.G (x : (List Elem) × Int × Unit) (J : List AV0 → Prop) : Prop := r09.Drop x.1 x.2.1 (fun r0 => J [.own 23 tElem r0])
def r09.Drop.F : List AV0 → (List AV0 → Prop) → Prop := byPs r09.Drop.ps r09.Drop.G
theorem r09.Drop.eq (x : psD r09.Drop.ps) (J : List AV0 → Prop) : r09.Drop.G x J = fnA r09.Drop.cx r09.Drop.ct Try.f33 (psMk r09.Drop.ps x) J := by kernel_rfl
theorem r09.Drop.good : Go.Iv.Good Try.prog 33 r09.Drop.F := good_gen (us := r09.Drop.us) (cxOk base rows (l := []) trivial) Try.func33 (by kernel_rfl) (by kernel_rfl) r09.Drop.ps r09.Drop.G r09.Drop.eq (by kernel_rfl) (by kernel_rfl) (L := [lpAt 3 Try.f33]) (M := [jnAt 59 r09.Drop.cx r09.Drop.ct Try.f33]) (by kernel_rfl) (by kernel_rfl) ⟨r09.Drop.l3.lp, trivial⟩ ⟨r09.Drop.j59.jn, trivial⟩
def chart.Rising.l2xr : Sk := ⟨[], 22, [(2, .var .bool)], []⟩
def chart.Rising.l2xe0 : Sk := ⟨[], 22, [], []⟩
def chart.Rising.l2.k : Sk := ⟨[], 22, [(0, .var (.sl 23 tElem)), (3, .var (.int .i64))], []⟩
def chart.Rising.l2.ex : List (AE × Sk) := [(.ret, chart.Rising.l2xr), ((.exit 0), chart.Rising.l2xe0)]
def chart.Rising.l2.X (Q : AE → St → Prop) (n : Nat) (x : (List Elem) × Int × Unit) : Prop := chart.Rising.l2 (fun t2 => Q .ret (chart.Rising.l2xr.mk' (t2, ()))) (Q (.exit 0) (chart.Rising.l2xe0.mk' ())) n x.1 x.2.1
def chart.Rising.ct : Cuts := { lp := [(2, fun st Q => chart.Rising.l2.k.as st fun x => ∃ n, chart.Rising.l2.X Q n x)], jn := [], ex := [], pl := [(4, [.any [] [(0, []), (1, []), (2, []), (3, []), (4, []), (5, []), (6, []), (7, []), (8, []), (9, []), (10, []), (11, [])]])] }
def chart.Rising.cx : Cx := cxOf tyL byL borL rowL false [] []
def chart.Rising.us : List (Nat × ((AE → St → Prop) → AE → St → Prop)) := []
theorem chart.Rising.l2.eq (Q : AE → St → Prop) (n : Nat) (x : chart.Rising.l2.k.D) : chart.Rising.l2.X Q (n + 1) x = awp chart.Rising.cx chart.Rising.ct (lpAt 2 Try.f34) (lpQ chart.Rising.l2.k (chart.Rising.l2.X Q n) chart.Rising.l2.ex Q) (lpQ chart.Rising.l2.k (chart.Rising.l2.X Q n) chart.Rising.l2.ex Q) (chart.Rising.l2.k.mk' x) := by kernel_rfl
theorem chart.Rising.l2.lp : LpOk chart.Rising.cx chart.Rising.ct (usOf chart.Rising.ct.ex chart.Rising.us) (lpAt 2 Try.f34) := lp_gen 2 (by kernel_rfl) chart.Rising.l2.k chart.Rising.l2.ex chart.Rising.l2.X (by kernel_rfl) (by intro Q x; kernel_rfl) chart.Rising.l2.eq (fun _ _ => trivial)
def chart.Rising.ps : List PS := [.t (.sl 23 tElem)]
def chart.Rising.G (x : (List Elem) × Unit) (J : List AV0 → Prop) : Prop := chart.Rising x.1 (fun r0 => J [.tv .bool r0])
def chart.Rising.F : List AV0 → (List AV0 → Prop) → Prop := byPs chart.Rising.ps chart.Rising.G
theorem chart.Rising.eq (x : psD chart.Rising.ps) (J : List AV0 → Prop) : chart.Rising.G x J = fnA chart.Rising.cx chart.Rising.ct Try.f34 (psMk chart.Rising.ps x) J := by kernel_rfl
theorem chart.Rising.good : Go.Iv.Good Try.prog 34 chart.Rising.F := good_gen (us := chart.Rising.us) (cxOk base rows (l := []) trivial) Try.func34 (by kernel_rfl) (by kernel_rfl) chart.Rising.ps chart.Rising.G chart.Rising.eq (by kernel_rfl) (by kernel_rfl) (L := [lpAt 2 Try.f34]) (M := []) (by kernel_rfl) (by kernel_rfl) ⟨chart.Rising.l2.lp, trivial⟩ trivial
def law09.ChartPuts.xr : Sk := ⟨[], 129, [(8, .var .bool)], []⟩
def law09.ChartPuts.j26.k : Sk := ⟨[], 129, [(5, .ptr 5 0), (9, .var (.sl 23 tElem)), (10, .row 10), (11, .row 11), (12, .ptr 12 0), (13, .var .bool), (17, .row 17), (94, .var .bool)], [(5, .box 23 tElem), (10, .row 23 tElem), (11, .row 23 tElem), (12, .box 23 tElem), (17, .row 23 tElem)]⟩
def law09.ChartPuts.j25.k : Sk := ⟨[], 129, [(5, .ptr 5 0), (9, .row 9)], [(5, .box 23 tElem), (9, .row 23 tElem)]⟩
def law09.ChartPuts.j10.k : Sk := ⟨[], 129, [(2, .var (.int .u8)), (5, .ptr 5 0), (9, .row 9), (33, .var .bool)], [(5, .box 23 tElem), (9, .row 23 tElem)]⟩
def law09.ChartPuts.j4.k : Sk := ⟨[], 129, [(0, .var (.sl 23 tElem)), (2, .var (.int .u8)), (3, .var .bool), (5, .ptr 5 0), (24, .var .bool)], [(5, .box 23 tElem)]⟩
def law09.ChartPuts.j26.X (U : AE → St → Prop) (x : (List Elem) × Bool × Bool × Elem × (List Elem) × (List Elem) × Elem × (List Elem) × Unit) : Prop := law09.ChartPuts.j26 (fun t8 => U .ret (law09.ChartPuts.xr.mk' (t8, ()))) x.1 x.2.1 x.2.2.1 x.2.2.2.1 x.2.2.2.2.1 x.2.2.2.2.2.1 x.2.2.2.2.2.2.1 x.2.2.2.2.2.2.2.1
def law09.ChartPuts.j25.X (U : AE → St → Prop) (x : Elem × (List Elem) × Unit) : Prop := law09.ChartPuts.j25 (fun t8 => U .ret (law09.ChartPuts.xr.mk' (t8, ()))) x.1 x.2.1
def law09.ChartPuts.j10.X (U : AE → St → Prop) (x : Int × Bool × Elem × (List Elem) × Unit) : Prop := law09.ChartPuts.j10 (fun t8 => U .ret (law09.ChartPuts.xr.mk' (t8, ()))) x.1 x.2.1 x.2.2.1 x.2.2.2.1
def law09.ChartPuts.j4.X (U : AE → St → Prop) (x : (List Elem) × Int × Bool × Bool × Elem × Unit) : Prop := law09.ChartPuts.j4 (fun t8 => U .ret (law09.ChartPuts.xr.mk' (t8, ()))) x.1 x.2.1 x.2.2.1 x.2.2.2.1 x.2.2.2.2.1
def law09.ChartPuts.ct : Cuts := { lp := [], jn := [(4, fun st U => law09.ChartPuts.j4.k.as st (law09.ChartPuts.j4.X U)), (10, fun st U => law09.ChartPuts.j10.k.as st (law09.ChartPuts.j10.X U)), (25, fun st U => law09.ChartPuts.j25.k.as st (law09.ChartPuts.j25.X U)), (26, fun st U => law09.ChartPuts.j26.k.as st (law09.ChartPuts.j26.X U))], ex := [(.ret, law09.ChartPuts.xr)], pl := [(12, [.any [] [(0, []), (1, []), (2, []), (3, []), (4, []), (5, []), (6, []), (7, []), (8, []), (9, []), (10, []), (11, []), (12, []), (13, []), (14, []), (15, []), (16, []), (17, []), (18, []), (19, []), (20, []), (21, []), (22, []), (23, [])]])] }
def law09.ChartPuts.cx : Cx := cxOf tyL byL borL rowL false [(34, chart.Rising.F), (33, r09.Drop.F), (31, r09.Same.F), (32, r09.Put.F), (30, chart.Drop.F), (29, r09.Find.F), (28, chart.Find.F), (27, chart.Put.F), (25, law09.rising.F), (24, law09.awake.F)] [9, 10, 11, 17]
def law09.ChartPuts.us : List (Nat × ((AE → St → Prop) → AE → St → Prop)) := []
theorem law09.ChartPuts.j26.eq (U : AE → St → Prop) (x : law09.ChartPuts.j26.k.D) : law09.ChartPuts.j26.X U x = awp law09.ChartPuts.cx law09.ChartPuts.ct (jnAt 26 law09.ChartPuts.cx law09.ChartPuts.ct Try.f10).code ((fnV law09.ChartPuts.ct.ex) U) ((jnAt 26 law09.ChartPuts.cx law09.ChartPuts.ct Try.f10).cont ((fnV law09.ChartPuts.ct.ex) U)) (law09.ChartPuts.j26.k.mk' x) := by kernel_rfl
theorem law09.ChartPuts.j26.jn : JnOk law09.ChartPuts.cx law09.ChartPuts.ct (usOf law09.ChartPuts.ct.ex law09.ChartPuts.us) (jnAt 26 law09.ChartPuts.cx law09.ChartPuts.ct Try.f10) := jn_gen none (by kernel_rfl) law09.ChartPuts.j26.k law09.ChartPuts.j26.X (fnV law09.ChartPuts.ct.ex) (by kernel_rfl) (fun U h => h) law09.ChartPuts.j26.eq
theorem law09.ChartPuts.j25.eq (U : AE → St → Prop) (x : law09.ChartPuts.j25.k.D) : law09.ChartPuts.j25.X U x = awp law09.ChartPuts.cx law09.ChartPuts.ct (jnAt 25 law09.ChartPuts.cx law09.ChartPuts.ct Try.f10).code ((fnV law09.ChartPuts.ct.ex) U) ((jnAt 25 law09.ChartPuts.cx law09.ChartPuts.ct Try.f10).cont ((fnV law09.ChartPuts.ct.ex) U)) (law09.ChartPuts.j25.k.mk' x) := by kernel_rfl
theorem law09.ChartPuts.j25.jn : JnOk law09.ChartPuts.cx law09.ChartPuts.ct (usOf law09.ChartPuts.ct.ex law09.ChartPuts.us) (jnAt 25 law09.ChartPuts.cx law09.ChartPuts.ct Try.f10) := jn_gen none (by kernel_rfl) law09.ChartPuts.j25.k law09.ChartPuts.j25.X (fnV law09.ChartPuts.ct.ex) (by kernel_rfl) (fun U h => h) law09.ChartPuts.j25.eq
theorem law09.ChartPuts.j10.eq (U : AE → St → Prop) (x : law09.ChartPuts.j10.k.D) : law09.ChartPuts.j10.X U x = awp law09.ChartPuts.cx law09.ChartPuts.ct (jnAt 10 law09.ChartPuts.cx law09.ChartPuts.ct Try.f10).code ((fnV law09.ChartPuts.ct.ex) U) ((jnAt 10 law09.ChartPuts.cx law09.ChartPuts.ct Try.f10).cont ((fnV law09.ChartPuts.ct.ex) U)) (law09.ChartPuts.j10.k.mk' x) := by kernel_rfl
theorem law09.ChartPuts.j10.jn : JnOk law09.ChartPuts.cx law09.ChartPuts.ct (usOf law09.ChartPuts.ct.ex law09.ChartPuts.us) (jnAt 10 law09.ChartPuts.cx law09.ChartPuts.ct Try.f10) := jn_gen none (by kernel_rfl) law09.ChartPuts.j10.k law09.ChartPuts.j10.X (fnV law09.ChartPuts.ct.ex) (by kernel_rfl) (fun U h => h) law09.ChartPuts.j10.eq
theorem law09.ChartPuts.j4.eq (U : AE → St → Prop) (x : law09.ChartPuts.j4.k.D) : law09.ChartPuts.j4.X U x = awp law09.ChartPuts.cx law09.ChartPuts.ct (jnAt 4 law09.ChartPuts.cx law09.ChartPuts.ct Try.f10).code ((fnV law09.ChartPuts.ct.ex) U) ((jnAt 4 law09.ChartPuts.cx law09.ChartPuts.ct Try.f10).cont ((fnV law09.ChartPuts.ct.ex) U)) (law09.ChartPuts.j4.k.mk' x) := by kernel_rfl
theorem law09.ChartPuts.j4.jn : JnOk law09.ChartPuts.cx law09.ChartPuts.ct (usOf law09.ChartPuts.ct.ex law09.ChartPuts.us) (jnAt 4 law09.ChartPuts.cx law09.ChartPuts.ct Try.f10) := jn_gen none (by kernel_rfl) law09.ChartPuts.j4.k law09.ChartPuts.j4.X (fnV law09.ChartPuts.ct.ex) (by kernel_rfl) (fun U h => h) law09.ChartPuts.j4.eq
def law09.ChartPuts.ps : List PS := [.t (.sl 23 tElem), .t tElem, .t (.int .u8), .t .bool]
def law09.ChartPuts.G (x : (List Elem) × Elem × Int × Bool × Unit) (J : List AV0 → Prop) : Prop := law09.ChartPuts x.1 x.2.1 x.2.2.1 x.2.2.2.1 (fun r0 => J [.tv .bool r0])
def law09.ChartPuts.F : List AV0 → (List AV0 → Prop) → Prop := byPs law09.ChartPuts.ps law09.ChartPuts.G
theorem law09.ChartPuts.eq (x : psD law09.ChartPuts.ps) (J : List AV0 → Prop) : law09.ChartPuts.G x J = fnA law09.ChartPuts.cx law09.ChartPuts.ct Try.f10 (psMk law09.ChartPuts.ps x) J := by kernel_rfl
theorem law09.ChartPuts.good : Go.Iv.Good Try.prog 10 law09.ChartPuts.F := good_gen (us := law09.ChartPuts.us) (cxOk base rows (l := [(34, chart.Rising.F), (33, r09.Drop.F), (31, r09.Same.F), (32, r09.Put.F), (30, chart.Drop.F), (29, r09.Find.F), (28, chart.Find.F), (27, chart.Put.F), (25, law09.rising.F), (24, law09.awake.F)]) ⟨chart.Rising.good, r09.Drop.good, r09.Same.good, r09.Put.good, chart.Drop.good, r09.Find.good, chart.Find.good, chart.Put.good, law09.rising.good, law09.awake.good, trivial⟩) Try.func10 (by kernel_rfl) (by kernel_rfl) law09.ChartPuts.ps law09.ChartPuts.G law09.ChartPuts.eq (by kernel_rfl) (by kernel_rfl) (L := []) (M := [jnAt 4 law09.ChartPuts.cx law09.ChartPuts.ct Try.f10, jnAt 10 law09.ChartPuts.cx law09.ChartPuts.ct Try.f10, jnAt 25 law09.ChartPuts.cx law09.ChartPuts.ct Try.f10, jnAt 26 law09.ChartPuts.cx law09.ChartPuts.ct Try.f10]) (by kernel_rfl) (by kernel_rfl) trivial ⟨law09.ChartPuts.j4.jn, law09.ChartPuts.j10.jn, law09.ChartPuts.j25.jn, law09.ChartPuts.j26.jn, trivial⟩
end Go.Iw
