/- The program's functions do what the plain ones do. -/
import Derived.Test.YtcpeakceigidpaaDoorVSo6
set_option linter.all false
namespace Go.Iw
open Go.Iv Go.Proofs
attribute [local irreducible] fnA fnAS awp
set_option maxHeartbeats 4000000
set_option maxRecDepth 100000
def SA.xr : Sk := ⟨[], 112, [(6, .var .bool)], [], []⟩
def SA.j4.k : Sk := ⟨[], 112, [(0, .var (.sl 5 (.int .u8))), (2, .var (.int .u8)), (4, .ptr 4 0), (26, .var .bool)], [(4, .box 28 (.arr 32 (.int .u8)))], []⟩
def SA.j4.X (U : AE → St → Prop) (x : (List Int) × Int × Bool × (List Int) × Unit) : Prop := SA.j4 (fun t6 => U .ret (SA.xr.mk' (t6, ()))) x.1 x.2.1 x.2.2.1 x.2.2.2.1
def SA.ct : Cuts := { lp := [], jn := [(4, fun st U => SA.j4.k.as st (SA.j4.X U))], ex := [(.ret, SA.xr)], pl := [] }
def SA.cx : Cx := cxOf tyLH byL ptrL borL rowL false [(17, XB.F), (23, CC.F), (25, WB.F), (21, PB.F), (27, AC.F), (22, YB.F), (26, TB.F), (12, OB.F), (10, KB.F)] [] [] [(21, LA.S), (20, WA.S), (28, AB.S)] [(55, [(1000, 55), (1001, 21), (1002, 22)]), (56, [(1001, 56)]), (61, [(1002, 61), (1003, 23), (1004, 25)])] glL [] tyR [] []
def SA.us : List (Nat × ((AE → St → Prop) → AE → St → Prop)) := []
theorem SA.j4.eq (U : AE → St → Prop) (x : SA.j4.k.D) : SA.j4.X U x = awp SA.cx SA.ct (jnAt 4 SA.cx SA.ct Tryd.f9).code ((fnV SA.ct.ex) U) ((jnAt 4 SA.cx SA.ct Tryd.f9).cont ((fnV SA.ct.ex) U)) (SA.j4.k.mk' x) := by kernel_rfl
theorem SA.j4.jn : JnOk SA.cx SA.ct (usOf SA.ct.ex SA.us) (jnAt 4 SA.cx SA.ct Tryd.f9) := jn_gen none (by kernel_rfl) SA.j4.k SA.j4.X (fnV SA.ct.ex) (by kernel_rfl) (fun U h => h) SA.j4.eq
def SA.ps : List PS := [.t (.sl 5 (.int .u8)), .t (.arr 32 (.int .u8)), .t (.int .u8)]
def SA.G (x : (List Int) × (List Int) × Int × Unit) (J : List AV0 → Prop) : Prop := SA x.1 x.2.1 x.2.2.1 (fun r0 => J [.tv .bool r0])
def SA.F : List AV0 → (List AV0 → Prop) → Prop := byPs SA.ps SA.G
theorem SA.eq (x : psD SA.ps) (J : List AV0 → Prop) : SA.G x J = fnA SA.cx SA.ct Tryd.f9 (psMk SA.ps x) J := by kernel_rfl
theorem SA.good : Go.Iv.Good Tryd.prog 9 SA.F := good_gen (us := SA.us) (cxOk baseH rows (l := [(17, XB.F), (23, CC.F), (25, WB.F), (21, PB.F), (27, AC.F), (22, YB.F), (26, TB.F), (12, OB.F), (10, KB.F)]) (scL := [(21, LA.S), (20, WA.S), (28, AB.S)]) ⟨XB.good, CC.good, WB.good, PB.good, AC.good, YB.good, TB.good, OB.good, KB.good, trivial⟩ ⟨LA.good, WA.good, AB.good, trivial⟩ glOk rtOk) Tryd.func9 (by kernel_rfl) (by kernel_rfl) SA.ps SA.G SA.eq (by kernel_rfl) (by kernel_rfl) (L := []) (M := [jnAt 4 SA.cx SA.ct Tryd.f9]) (by kernel_rfl) (by kernel_rfl) trivial ⟨SA.j4.jn, trivial⟩
end Go.Iw
