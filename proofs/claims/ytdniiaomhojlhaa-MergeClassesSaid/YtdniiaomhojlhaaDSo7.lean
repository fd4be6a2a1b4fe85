/- The program's functions do what the plain ones do. -/
import Derived.Test.YtdniiaomhojlhaaDSo6
namespace Go.Iw
open Go.Iv Go.Proofs
attribute [local irreducible] fnA awp
set_option maxHeartbeats 4000000
set_option maxRecDepth 100000
set_option linter.unusedVariables false
def merge.class.xr : Sk := ⟨[], 9, [(2, .var (.int .u8))], []⟩
def merge.class.j25.k : Sk := ⟨[], 9, [(6, .var .bool)], []⟩
def merge.class.j25.X (U : AE → St → Prop) (x : Bool × Unit) : Prop := merge.class.j25 (fun t2 => U .ret (merge.class.xr.mk' (t2, ()))) x.1
def merge.class.ct : Cuts := { lp := [], jn := [(25, fun st U => merge.class.j25.k.as st (merge.class.j25.X U))], ex := [(.ret, merge.class.xr)], pl := [] }
def merge.class.cx : Cx := cxOf tyL byL borL rowL false [] []
def merge.class.us : List (Nat × ((AE → St → Prop) → AE → St → Prop)) := []
theorem merge.class.j25.eq (U : AE → St → Prop) (x : merge.class.j25.k.D) : merge.class.j25.X U x = awp merge.class.cx merge.class.ct (jnAt 25 merge.class.cx merge.class.ct Try.f43).code ((fnV merge.class.ct.ex) U) ((jnAt 25 merge.class.cx merge.class.ct Try.f43).cont ((fnV merge.class.ct.ex) U)) (merge.class.j25.k.mk' x) := by kernel_rfl
theorem merge.class.j25.jn : JnOk merge.class.cx merge.class.ct (usOf merge.class.ct.ex merge.class.us) (jnAt 25 merge.class.cx merge.class.ct Try.f43) := jn_gen none (by kernel_rfl) merge.class.j25.k merge.class.j25.X (fnV merge.class.ct.ex) (by kernel_rfl) (fun U h => h) merge.class.j25.eq
def merge.class.ps : List PS := [.t (.int .i64)]
def merge.class.G (x : Int × Unit) (J : List AV0 → Prop) : Prop := merge.class x.1 (fun r0 => J [.tv (.int .u8) r0])
def merge.class.F : List AV0 → (List AV0 → Prop) → Prop := byPs merge.class.ps merge.class.G
theorem merge.class.eq (x : psD merge.class.ps) (J : List AV0 → Prop) : merge.class.G x J = fnA merge.class.cx merge.class.ct Try.f43 (psMk merge.class.ps x) J := by kernel_rfl
theorem merge.class.good : Go.Iv.Good Try.prog 43 merge.class.F := good_gen (us := merge.class.us) (cxOk base rows (l := []) trivial) Try.func43 (by kernel_rfl) (by kernel_rfl) merge.class.ps merge.class.G merge.class.eq (by kernel_rfl) (by kernel_rfl) (L := []) (M := [jnAt 25 merge.class.cx merge.class.ct Try.f43]) (by kernel_rfl) (by kernel_rfl) trivial ⟨merge.class.j25.jn, trivial⟩
end Go.Iw
