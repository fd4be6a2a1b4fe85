/- The program's functions do what the plain ones do. -/
import Derived.Test.YtdniiaomhojlhaaDSo3
namespace Go.Iw
open Go.Iv Go.Proofs
attribute [local irreducible] fnA awp
set_option maxHeartbeats 4000000
set_option maxRecDepth 100000
set_option linter.unusedVariables false
def law23.JudgeOthers.xr : Sk := ⟨[], 116, [(8, .var .bool)], []⟩
def law23.JudgeOthers.j123.k : Sk := ⟨[], 116, [(9, .var (.sl 27 tElem)), (10, .var (.sl 27 tElem)), (11, .row 11)], [(11, .row 27 tElem)]⟩
def law23.JudgeOthers.j12.k : Sk := ⟨[], 116, [(2, .var (.int .u8)), (3, .var (.int .u8)), (9, .var (.sl 27 tElem)), (10, .var (.sl 27 tElem)), (52, .var .bool)], []⟩
def law23.JudgeOthers.j4.k : Sk := ⟨[], 116, [(0, .var (.sl 78 tAct)), (1, .var (.sl 78 tAct)), (2, .var (.int .u8)), (3, .var (.int .u8)), (24, .var .bool)], []⟩
def law23.JudgeOthers.j123.X (U : AE → St → Prop) (x : (List Elem) × (List Elem) × (List Elem) × Unit) : Prop := law23.JudgeOthers.j123 (fun t8 => U .ret (law23.JudgeOthers.xr.mk' (t8, ()))) x.1 x.2.1 x.2.2.1
def law23.JudgeOthers.j12.X (U : AE → St → Prop) (x : Int × Int × (List Elem) × (List Elem) × Bool × Unit) : Prop := law23.JudgeOthers.j12 (fun t8 => U .ret (law23.JudgeOthers.xr.mk' (t8, ()))) x.1 x.2.1 x.2.2.1 x.2.2.2.1 x.2.2.2.2.1
def law23.JudgeOthers.j4.X (U : AE → St → Prop) (x : (List Act) × (List Act) × Int × Int × Bool × Unit) : Prop := law23.JudgeOthers.j4 (fun t8 => U .ret (law23.JudgeOthers.xr.mk' (t8, ()))) x.1 x.2.1 x.2.2.1 x.2.2.2.1 x.2.2.2.2.1
def law23.JudgeOthers.ct : Cuts := { lp := [], jn := [(4, fun st U => law23.JudgeOthers.j4.k.as st (law23.JudgeOthers.j4.X U)), (12, fun st U => law23.JudgeOthers.j12.k.as st (law23.JudgeOthers.j12.X U)), (123, fun st U => law23.JudgeOthers.j123.k.as st (law23.JudgeOthers.j123.X U))], ex := [(.ret, law23.JudgeOthers.xr)], pl := [] }
def law23.JudgeOthers.cx : Cx := cxOf tyL byL borL rowL false [(21, r09.Drop.F), (20, judge.Merged.F), (19, r09.Change.F), (18, r09.Make.F), (13, law23.awake.F)] [11]
def law23.JudgeOthers.us : List (Nat × ((AE → St → Prop) → AE → St → Prop)) := []
theorem law23.JudgeOthers.j123.eq (U : AE → St → Prop) (x : law23.JudgeOthers.j123.k.D) : law23.JudgeOthers.j123.X U x = awp law23.JudgeOthers.cx law23.JudgeOthers.ct (jnAt 123 law23.JudgeOthers.cx law23.JudgeOthers.ct Try.f4).code ((fnV law23.JudgeOthers.ct.ex) U) ((jnAt 123 law23.JudgeOthers.cx law23.JudgeOthers.ct Try.f4).cont ((fnV law23.JudgeOthers.ct.ex) U)) (law23.JudgeOthers.j123.k.mk' x) := by kernel_rfl
theorem law23.JudgeOthers.j123.jn : JnOk law23.JudgeOthers.cx law23.JudgeOthers.ct (usOf law23.JudgeOthers.ct.ex law23.JudgeOthers.us) (jnAt 123 law23.JudgeOthers.cx law23.JudgeOthers.ct Try.f4) := jn_gen none (by kernel_rfl) law23.JudgeOthers.j123.k law23.JudgeOthers.j123.X (fnV law23.JudgeOthers.ct.ex) (by kernel_rfl) (fun U h => h) law23.JudgeOthers.j123.eq
theorem law23.JudgeOthers.j12.eq (U : AE → St → Prop) (x : law23.JudgeOthers.j12.k.D) : law23.JudgeOthers.j12.X U x = awp law23.JudgeOthers.cx law23.JudgeOthers.ct (jnAt 12 law23.JudgeOthers.cx law23.JudgeOthers.ct Try.f4).code ((fnV law23.JudgeOthers.ct.ex) U) ((jnAt 12 law23.JudgeOthers.cx law23.JudgeOthers.ct Try.f4).cont ((fnV law23.JudgeOthers.ct.ex) U)) (law23.JudgeOthers.j12.k.mk' x) := by kernel_rfl
theorem law23.JudgeOthers.j12.jn : JnOk law23.JudgeOthers.cx law23.JudgeOthers.ct (usOf law23.JudgeOthers.ct.ex law23.JudgeOthers.us) (jnAt 12 law23.JudgeOthers.cx law23.JudgeOthers.ct Try.f4) := jn_gen none (by kernel_rfl) law23.JudgeOthers.j12.k law23.JudgeOthers.j12.X (fnV law23.JudgeOthers.ct.ex) (by kernel_rfl) (fun U h => h) law23.JudgeOthers.j12.eq
theorem law23.JudgeOthers.j4.eq (U : AE → St → Prop) (x : law23.JudgeOthers.j4.k.D) : law23.JudgeOthers.j4.X U x = awp law23.JudgeOthers.cx law23.JudgeOthers.ct (jnAt 4 law23.JudgeOthers.cx law23.JudgeOthers.ct Try.f4).code ((fnV law23.JudgeOthers.ct.ex) U) ((jnAt 4 law23.JudgeOthers.cx law23.JudgeOthers.ct Try.f4).cont ((fnV law23.JudgeOthers.ct.ex) U)) (law23.JudgeOthers.j4.k.mk' x) := by kernel_rfl
theorem law23.JudgeOthers.j4.jn : JnOk law23.JudgeOthers.cx law23.JudgeOthers.ct (usOf law23.JudgeOthers.ct.ex law23.JudgeOthers.us) (jnAt 4 law23.JudgeOthers.cx law23.JudgeOthers.ct Try.f4) := jn_gen none (by kernel_rfl) law23.JudgeOthers.j4.k law23.JudgeOthers.j4.X (fnV law23.JudgeOthers.ct.ex) (by kernel_rfl) (fun U h => h) law23.JudgeOthers.j4.eq
def law23.JudgeOthers.ps : List PS := [.t (.sl 78 tAct), .t (.sl 78 tAct), .t (.int .u8), .t (.int .u8)]
def law23.JudgeOthers.G (x : (List Act) × (List Act) × Int × Int × Unit) (J : List AV0 → Prop) : Prop := law23.JudgeOthers x.1 x.2.1 x.2.2.1 x.2.2.2.1 (fun r0 => J [.tv .bool r0])
def law23.JudgeOthers.F : List AV0 → (List AV0 → Prop) → Prop := byPs law23.JudgeOthers.ps law23.JudgeOthers.G
theorem law23.JudgeOthers.eq (x : psD law23.JudgeOthers.ps) (J : List AV0 → Prop) : law23.JudgeOthers.G x J = fnA law23.JudgeOthers.cx law23.JudgeOthers.ct Try.f4 (psMk law23.JudgeOthers.ps x) J := by kernel_rfl
theorem law23.JudgeOthers.good : Go.Iv.Good Try.prog 4 law23.JudgeOthers.F := good_gen (us := law23.JudgeOthers.us) (cxOk base rows (l := [(21, r09.Drop.F), (20, judge.Merged.F), (19, r09.Change.F), (18, r09.Make.F), (13, law23.awake.F)]) ⟨r09.Drop.good, judge.Merged.good, r09.Change.good, r09.Make.good, law23.awake.good, trivial⟩) Try.func4 (by kernel_rfl) (by kernel_rfl) law23.JudgeOthers.ps law23.JudgeOthers.G law23.JudgeOthers.eq (by kernel_rfl) (by kernel_rfl) (L := []) (M := [jnAt 4 law23.JudgeOthers.cx law23.JudgeOthers.ct Try.f4, jnAt 12 law23.JudgeOthers.cx law23.JudgeOthers.ct Try.f4, jnAt 123 law23.JudgeOthers.cx law23.JudgeOthers.ct Try.f4]) (by kernel_rfl) (by kernel_rfl) trivial ⟨law23.JudgeOthers.j4.jn, law23.JudgeOthers.j12.jn, law23.JudgeOthers.j123.jn, trivial⟩
end Go.Iw
