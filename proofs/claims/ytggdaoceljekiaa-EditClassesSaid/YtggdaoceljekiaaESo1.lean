/- The program's functions do what the plain ones do. -/
import Derived.Test.YtggdaoceljekiaaEHd
namespace Go.Iw
open Go.Iv Go.Proofs
attribute [local irreducible] fnA awp
set_option maxHeartbeats 4000000
set_option maxRecDepth 100000
set_option linter.unusedVariables false
def edit.Of.xr : Sk := ⟨[], 11, [(2, .var (.int .u8))], []⟩
def edit.Of.j33.k : Sk := ⟨[], 11, [(8, .var .bool)], []⟩
def edit.Of.j33.X (U : AE → St → Prop) (x : Bool × Unit) : Prop := edit.Of.j33 (fun t2 => U .ret (edit.Of.xr.mk' (t2, ()))) x.1
def edit.Of.ct : Cuts := { lp := [], jn := [(33, fun st U => edit.Of.j33.k.as st (edit.Of.j33.X U))], ex := [(.ret, edit.Of.xr)], pl := [] }
def edit.Of.cx : Cx := cxOf tyL byL borL rowL false [] []
def edit.Of.us : List (Nat × ((AE → St → Prop) → AE → St → Prop)) := []
theorem edit.Of.j33.eq (U : AE → St → Prop) (x : edit.Of.j33.k.D) : edit.Of.j33.X U x = awp edit.Of.cx edit.Of.ct (jnAt 33 edit.Of.cx edit.Of.ct Try.f14).code ((fnV edit.Of.ct.ex) U) ((jnAt 33 edit.Of.cx edit.Of.ct Try.f14).cont ((fnV edit.Of.ct.ex) U)) (edit.Of.j33.k.mk' x) := by kernel_rfl
theorem edit.Of.j33.jn : JnOk edit.Of.cx edit.Of.ct (usOf edit.Of.ct.ex edit.Of.us) (jnAt 33 edit.Of.cx edit.Of.ct Try.f14) := jn_gen none (by kernel_rfl) edit.Of.j33.k edit.Of.j33.X (fnV edit.Of.ct.ex) (by kernel_rfl) (fun U h => h) edit.Of.j33.eq
def edit.Of.ps : List PS := [.t (.int .i64)]
def edit.Of.G (x : Int × Unit) (J : List AV0 → Prop) : Prop := edit.Of x.1 (fun r0 => J [.tv (.int .u8) r0])
def edit.Of.F : List AV0 → (List AV0 → Prop) → Prop := byPs edit.Of.ps edit.Of.G
theorem edit.Of.eq (x : psD edit.Of.ps) (J : List AV0 → Prop) : edit.Of.G x J = fnA edit.Of.cx edit.Of.ct Try.f14 (psMk edit.Of.ps x) J := by kernel_rfl
theorem edit.Of.good : Go.Iv.Good Try.prog 14 edit.Of.F := good_gen (us := edit.Of.us) (cxOk base rows (l := []) trivial) Try.func14 (by kernel_rfl) (by kernel_rfl) edit.Of.ps edit.Of.G edit.Of.eq (by kernel_rfl) (by kernel_rfl) (L := []) (M := [jnAt 33 edit.Of.cx edit.Of.ct Try.f14]) (by kernel_rfl) (by kernel_rfl) trivial ⟨edit.Of.j33.jn, trivial⟩
def law12.awake.ct : Cuts := { lp := [], jn := [], ex := [], pl := [] }
def law12.awake.cx : Cx := cxOf tyL byL borL rowL false [(14, edit.Of.F), (39, edit.Invert.F)] [1]
def law12.awake.us : List (Nat × ((AE → St → Prop) → AE → St → Prop)) := []
def law12.awake.ps : List PS := []
def law12.awake.G (x : Unit) (J : List AV0 → Prop) : Prop := law12.awake (fun r0 => J [.tv .bool r0])
def law12.awake.F : List AV0 → (List AV0 → Prop) → Prop := byPs law12.awake.ps law12.awake.G
theorem law12.awake.eq (x : psD law12.awake.ps) (J : List AV0 → Prop) : law12.awake.G x J = fnA law12.awake.cx law12.awake.ct Try.f13 (psMk law12.awake.ps x) J := by kernel_rfl
theorem law12.awake.good : Go.Iv.Good Try.prog 13 law12.awake.F := good_gen (us := law12.awake.us) (cxOk base rows (l := [(14, edit.Of.F), (39, edit.Invert.F)]) ⟨edit.Of.good, edit.Invert.good, trivial⟩) Try.func13 (by kernel_rfl) (by kernel_rfl) law12.awake.ps law12.awake.G law12.awake.eq (by kernel_rfl) (by kernel_rfl) (L := []) (M := []) (by kernel_rfl) (by kernel_rfl) trivial trivial
def edit.Class.ct : Cuts := { lp := [], jn := [], ex := [], pl := [] }
def edit.Class.cx : Cx := cxOf tyL byL borL rowL false [(14, edit.Of.F)] []
def edit.Class.us : List (Nat × ((AE → St → Prop) → AE → St → Prop)) := []
def edit.Class.ps : List PS := [.t tEdit]
def edit.Class.G (x : Edit × Unit) (J : List AV0 → Prop) : Prop := edit.Class x.1 (fun r0 => J [.tv (.int .u8) r0])
def edit.Class.F : List AV0 → (List AV0 → Prop) → Prop := byPs edit.Class.ps edit.Class.G
theorem edit.Class.eq (x : psD edit.Class.ps) (J : List AV0 → Prop) : edit.Class.G x J = fnA edit.Class.cx edit.Class.ct Try.f15 (psMk edit.Class.ps x) J := by kernel_rfl
theorem edit.Class.good : Go.Iv.Good Try.prog 15 edit.Class.F := good_gen (us := edit.Class.us) (cxOk base rows (l := [(14, edit.Of.F)]) ⟨edit.Of.good, trivial⟩) Try.func15 (by kernel_rfl) (by kernel_rfl) edit.Class.ps edit.Class.G edit.Class.eq (by kernel_rfl) (by kernel_rfl) (L := []) (M := []) (by kernel_rfl) (by kernel_rfl) trivial trivial
def law12.EditClasses.xr : Sk := ⟨[], 37, [(4, .var .bool)], []⟩
def law12.EditClasses.j65.k : Sk := ⟨[], 37, [(1, .var (.int .i64)), (2, .ptr 2 0), (5, .var (.int .u8)), (6, .var (.int .u8))], [(2, .box 27 tEdit)]⟩
def law12.EditClasses.j57.k : Sk := ⟨[], 37, [(1, .var (.int .i64)), (2, .ptr 2 0), (5, .var (.int .u8)), (6, .var (.int .u8))], [(2, .box 27 tEdit)]⟩
def law12.EditClasses.j43.k : Sk := ⟨[], 37, [(1, .var (.int .i64)), (2, .ptr 2 0), (5, .var (.int .u8))], [(2, .box 27 tEdit)]⟩
def law12.EditClasses.j37.k : Sk := ⟨[], 37, [(1, .var (.int .i64)), (2, .ptr 2 0), (5, .var (.int .u8)), (12, .var .bool)], [(2, .box 27 tEdit)]⟩
def law12.EditClasses.j65.X (U : AE → St → Prop) (x : Int × Int × Int × Edit × Unit) : Prop := law12.EditClasses.j65 (fun t4 => U .ret (law12.EditClasses.xr.mk' (t4, ()))) x.1 x.2.1 x.2.2.1 x.2.2.2.1
def law12.EditClasses.j57.X (U : AE → St → Prop) (x : Int × Int × Int × Edit × Unit) : Prop := law12.EditClasses.j57 (fun t4 => U .ret (law12.EditClasses.xr.mk' (t4, ()))) x.1 x.2.1 x.2.2.1 x.2.2.2.1
def law12.EditClasses.j43.X (U : AE → St → Prop) (x : Int × Int × Edit × Unit) : Prop := law12.EditClasses.j43 (fun t4 => U .ret (law12.EditClasses.xr.mk' (t4, ()))) x.1 x.2.1 x.2.2.1
def law12.EditClasses.j37.X (U : AE → St → Prop) (x : Int × Int × Bool × Edit × Unit) : Prop := law12.EditClasses.j37 (fun t4 => U .ret (law12.EditClasses.xr.mk' (t4, ()))) x.1 x.2.1 x.2.2.1 x.2.2.2.1
def law12.EditClasses.ct : Cuts := { lp := [], jn := [(43, fun st U => law12.EditClasses.j43.k.as st (law12.EditClasses.j43.X U)), (57, fun st U => law12.EditClasses.j57.k.as st (law12.EditClasses.j57.X U)), (65, fun st U => law12.EditClasses.j65.k.as st (law12.EditClasses.j65.X U)), (37, fun st U => law12.EditClasses.j37.k.as st (law12.EditClasses.j37.X U))], ex := [(.ret, law12.EditClasses.xr)], pl := [] }
def law12.EditClasses.cx : Cx := cxOf tyL byL borL rowL false [(15, edit.Class.F), (14, edit.Of.F), (13, law12.awake.F)] []
def law12.EditClasses.us : List (Nat × ((AE → St → Prop) → AE → St → Prop)) := []
theorem law12.EditClasses.j65.eq (U : AE → St → Prop) (x : law12.EditClasses.j65.k.D) : law12.EditClasses.j65.X U x = awp law12.EditClasses.cx law12.EditClasses.ct (jnAt 65 law12.EditClasses.cx law12.EditClasses.ct Try.f3).code ((fnV law12.EditClasses.ct.ex) U) ((jnAt 65 law12.EditClasses.cx law12.EditClasses.ct Try.f3).cont ((fnV law12.EditClasses.ct.ex) U)) (law12.EditClasses.j65.k.mk' x) := by kernel_rfl
theorem law12.EditClasses.j65.jn : JnOk law12.EditClasses.cx law12.EditClasses.ct (usOf law12.EditClasses.ct.ex law12.EditClasses.us) (jnAt 65 law12.EditClasses.cx law12.EditClasses.ct Try.f3) := jn_gen none (by kernel_rfl) law12.EditClasses.j65.k law12.EditClasses.j65.X (fnV law12.EditClasses.ct.ex) (by kernel_rfl) (fun U h => h) law12.EditClasses.j65.eq
theorem law12.EditClasses.j57.eq (U : AE → St → Prop) (x : law12.EditClasses.j57.k.D) : law12.EditClasses.j57.X U x = awp law12.EditClasses.cx law12.EditClasses.ct (jnAt 57 law12.EditClasses.cx law12.EditClasses.ct Try.f3).code ((fnV law12.EditClasses.ct.ex) U) ((jnAt 57 law12.EditClasses.cx law12.EditClasses.ct Try.f3).cont ((fnV law12.EditClasses.ct.ex) U)) (law12.EditClasses.j57.k.mk' x) := by kernel_rfl
theorem law12.EditClasses.j57.jn : JnOk law12.EditClasses.cx law12.EditClasses.ct (usOf law12.EditClasses.ct.ex law12.EditClasses.us) (jnAt 57 law12.EditClasses.cx law12.EditClasses.ct Try.f3) := jn_gen none (by kernel_rfl) law12.EditClasses.j57.k law12.EditClasses.j57.X (fnV law12.EditClasses.ct.ex) (by kernel_rfl) (fun U h => h) law12.EditClasses.j57.eq
theorem law12.EditClasses.j43.eq (U : AE → St → Prop) (x : law12.EditClasses.j43.k.D) : law12.EditClasses.j43.X U x = awp law12.EditClasses.cx law12.EditClasses.ct (jnAt 43 law12.EditClasses.cx law12.EditClasses.ct Try.f3).code ((fnV law12.EditClasses.ct.ex) U) ((jnAt 43 law12.EditClasses.cx law12.EditClasses.ct Try.f3).cont ((fnV law12.EditClasses.ct.ex) U)) (law12.EditClasses.j43.k.mk' x) := by kernel_rfl
theorem law12.EditClasses.j43.jn : JnOk law12.EditClasses.cx law12.EditClasses.ct (usOf law12.EditClasses.ct.ex law12.EditClasses.us) (jnAt 43 law12.EditClasses.cx law12.EditClasses.ct Try.f3) := jn_gen none (by kernel_rfl) law12.EditClasses.j43.k law12.EditClasses.j43.X (fnV law12.EditClasses.ct.ex) (by kernel_rfl) (fun U h => h) law12.EditClasses.j43.eq
theorem law12.EditClasses.j37.eq (U : AE → St → Prop) (x : law12.EditClasses.j37.k.D) : law12.EditClasses.j37.X U x = awp law12.EditClasses.cx law12.EditClasses.ct (jnAt 37 law12.EditClasses.cx law12.EditClasses.ct Try.f3).code ((fnV law12.EditClasses.ct.ex) U) ((jnAt 37 law12.EditClasses.cx law12.EditClasses.ct Try.f3).cont ((fnV law12.EditClasses.ct.ex) U)) (law12.EditClasses.j37.k.mk' x) := by kernel_rfl
theorem law12.EditClasses.j37.jn : JnOk law12.EditClasses.cx law12.EditClasses.ct (usOf law12.EditClasses.ct.ex law12.EditClasses.us) (jnAt 37 law12.EditClasses.cx law12.EditClasses.ct Try.f3) := jn_gen none (by kernel_rfl) law12.EditClasses.j37.k law12.EditClasses.j37.X (fnV law12.EditClasses.ct.ex) (by kernel_rfl) (fun U h => h) law12.EditClasses.j37.eq
def law12.EditClasses.ps : List PS := [.t tEdit, .t (.int .i64)]
def law12.EditClasses.G (x : Edit × Int × Unit) (J : List AV0 → Prop) : Prop := law12.EditClasses x.1 x.2.1 (fun r0 => J [.tv .bool r0])
def law12.EditClasses.F : List AV0 → (List AV0 → Prop) → Prop := byPs law12.EditClasses.ps law12.EditClasses.G
theorem law12.EditClasses.eq (x : psD law12.EditClasses.ps) (J : List AV0 → Prop) : law12.EditClasses.G x J = fnA law12.EditClasses.cx law12.EditClasses.ct Try.f3 (psMk law12.EditClasses.ps x) J := by kernel_rfl
theorem law12.EditClasses.good : Go.Iv.Good Try.prog 3 law12.EditClasses.F := good_gen (us := law12.EditClasses.us) (cxOk base rows (l := [(15, edit.Class.F), (14, edit.Of.F), (13, law12.awake.F)]) ⟨edit.Class.good, edit.Of.good, law12.awake.good, trivial⟩) Try.func3 (by kernel_rfl) (by kernel_rfl) law12.EditClasses.ps law12.EditClasses.G law12.EditClasses.eq (by kernel_rfl) (by kernel_rfl) (L := []) (M := [jnAt 37 law12.EditClasses.cx law12.EditClasses.ct Try.f3, jnAt 43 law12.EditClasses.cx law12.EditClasses.ct Try.f3, jnAt 57 law12.EditClasses.cx law12.EditClasses.ct Try.f3, jnAt 65 law12.EditClasses.cx law12.EditClasses.ct Try.f3]) (by kernel_rfl) (by kernel_rfl) trivial ⟨law12.EditClasses.j37.jn, law12.EditClasses.j43.jn, law12.EditClasses.j57.jn, law12.EditClasses.j65.jn, trivial⟩
end Go.Iw
