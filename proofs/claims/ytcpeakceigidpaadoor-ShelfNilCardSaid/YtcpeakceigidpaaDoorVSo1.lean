/- The program's functions do what the plain ones do. -/
import Derived.Test.YtcpeakceigidpaaDoorVHd
set_option linter.all false
namespace Go.Iw
open Go.Iv Go.Proofs
attribute [local irreducible] fnA fnAS awp
set_option maxHeartbeats 4000000
set_option maxRecDepth 100000
def TA.l3xe0 : Sk := ⟨[], 36, [(3, .var (.int .u32))], [], []⟩
def TA.l3.k : Sk := ⟨[], 36, [(3, .var (.int .u32)), (6, .var (.sl 5 (.int .u8))), (7, .var (.int .i64)), (8, .var (.int .i64))], [], []⟩
def TA.l3.ex : List (AE × Sk) := [((.exit 0), TA.l3xe0)]
def TA.l3.X (Q : AE → St → Prop) (n : Nat) (x : Int × (List Int) × Int × Int × Unit) : Prop := TA.l3 (fun r3 => Q (.exit 0) (TA.l3xe0.mk' (r3, ()))) n x.1 x.2.1 x.2.2.1 x.2.2.2.1
def TA.ct : Cuts := { lp := [(3, fun st Q => TA.l3.k.as st fun x => ∃ n, TA.l3.X Q n x)], jn := [], ex := [], pl := [] }
def TA.cx : Cx := cxOf tyL byL ptrL borL rowL false [] [] [] [] [] glL [] tyR [] []
def TA.us : List (Nat × ((AE → St → Prop) → AE → St → Prop)) := []
theorem TA.l3.eq (Q : AE → St → Prop) (n : Nat) (x : TA.l3.k.D) : TA.l3.X Q (n + 1) x = awp TA.cx TA.ct (lpAt 3 Tryd.f74) (lpQ TA.l3.k (TA.l3.X Q n) TA.l3.ex Q) (lpQ TA.l3.k (TA.l3.X Q n) TA.l3.ex Q) (TA.l3.k.mk' x) := by kernel_rfl
theorem TA.l3.lp : LpOk TA.cx TA.ct (usOf TA.ct.ex TA.us) (lpAt 3 Tryd.f74) := lp_gen 3 (by kernel_rfl) TA.l3.k TA.l3.ex TA.l3.X (by kernel_rfl) (by intro Q x; kernel_rfl) TA.l3.eq (fun _ _ => trivial)
def TA.ps : List PS := [.t (.sl 5 (.int .u8))]
def TA.G (x : (List Int) × Unit) (J : List AV0 → Prop) : Prop := TA x.1 (fun r0 => J [.tv (.int .u32) r0])
def TA.F : List AV0 → (List AV0 → Prop) → Prop := byPs TA.ps TA.G
theorem TA.eq (x : psD TA.ps) (J : List AV0 → Prop) : TA.G x J = fnA TA.cx TA.ct Tryd.f74 (psMk TA.ps x) J := by kernel_rfl
theorem TA.good : Go.Iv.Good Tryd.prog 74 TA.F := good_gen (us := TA.us) (cxOk base rows (l := []) (scL := []) trivial trivial glOk rtOk) Tryd.func74 (by kernel_rfl) (by kernel_rfl) TA.ps TA.G TA.eq (by kernel_rfl) (by kernel_rfl) (L := [lpAt 3 Tryd.f74]) (M := []) (by kernel_rfl) (by kernel_rfl) ⟨TA.l3.lp, trivial⟩ trivial
def ZA.ct : Cuts := { lp := [], jn := [], ex := [], pl := [] }
def ZA.cx : Cx := cxOf tyL byL ptrL borL rowL true [] [2] [] [] [] glL [] tyR [] []
def ZA.us : List (Nat × ((AE → St → Prop) → AE → St → Prop)) := []
def ZA.ps : List PS := [.t (.int .i64)]
def ZA.G (x : Int × Unit) (J : List AV0 → Prop) : Prop := ZA x.1 (fun r0 => J [.own 5 (.int .u8) r0])
def ZA.F : List AV0 → (List AV0 → Prop) → Prop := byPs ZA.ps ZA.G
theorem ZA.eq (x : psD ZA.ps) (J : List AV0 → Prop) : ZA.G x J = fnA ZA.cx ZA.ct Tryd.f62 (psMk ZA.ps x) J := by kernel_rfl
theorem ZA.good : Go.Iv.Good Tryd.prog 62 ZA.F := good_gen (us := ZA.us) (cxOk base rows (l := []) (scL := []) trivial trivial glOk rtOk) Tryd.func62 (by kernel_rfl) (by kernel_rfl) ZA.ps ZA.G ZA.eq (by kernel_rfl) (by kernel_rfl) (L := []) (M := []) (by kernel_rfl) (by kernel_rfl) trivial trivial
def JB.ct : Cuts := { lp := [], jn := [], ex := [], pl := [] }
def JB.cx : Cx := cxOf tyL byL ptrL borL rowL false [(74, TA.F)] [3, 2] [] [] [] glL [] tyR [] []
def JB.us : List (Nat × ((AE → St → Prop) → AE → St → Prop)) := []
def JB.ps : List PS := [.t (.sl 5 (.int .u8))]
def JB.G (x : (List Int) × Unit) (J : List AV0 → Prop) : Prop := JB x.1 (fun r0 => J [.tv (.sl 5 (.int .u8)) r0])
def JB.F : List AV0 → (List AV0 → Prop) → Prop := byPs JB.ps JB.G
theorem JB.eq (x : psD JB.ps) (J : List AV0 → Prop) : JB.G x J = fnA JB.cx JB.ct Tryd.f61 (psMk JB.ps x) J := by kernel_rfl
theorem JB.good : Go.Iv.Good Tryd.prog 61 JB.F := good_gen (us := JB.us) (cxOk base rows (l := [(74, TA.F)]) (scL := []) ⟨TA.good, trivial⟩ trivial glOk rtOk) Tryd.func61 (by kernel_rfl) (by kernel_rfl) JB.ps JB.G JB.eq (by kernel_rfl) (by kernel_rfl) (L := []) (M := []) (by kernel_rfl) (by kernel_rfl) trivial trivial
def LB.ct : Cuts := { lp := [], jn := [], ex := [], pl := [(4, [.frz 4, .frz 1000004, .any [] [(0, []), (1, []), (2, []), (3, []), (4, []), (5, [])]])] }
def LB.cx : Cx := cxOf tyL byL ptrL borL rowL false [(61, JB.F)] [4, 2] [] [] [] glL [] tyR [] []
def LB.us : List (Nat × ((AE → St → Prop) → AE → St → Prop)) := []
def LB.ps : List PS := [.t (.sl 5 (.int .u8))]
def LB.G (x : (List Int) × Unit) (J : List AV0 → Prop) : Prop := LB x.1 (fun r0 r1 => J [.tv (.sl 5 (.int .u8)) r0, .tv .bool r1])
def LB.F : List AV0 → (List AV0 → Prop) → Prop := byPs LB.ps LB.G
theorem LB.eq (x : psD LB.ps) (J : List AV0 → Prop) : LB.G x J = fnA LB.cx LB.ct Tryd.f67 (psMk LB.ps x) J := by kernel_rfl
theorem LB.good : Go.Iv.Good Tryd.prog 67 LB.F := good_gen (us := LB.us) (cxOk base rows (l := [(61, JB.F)]) (scL := []) ⟨JB.good, trivial⟩ trivial glOk rtOk) Tryd.func67 (by kernel_rfl) (by kernel_rfl) LB.ps LB.G LB.eq (by kernel_rfl) (by kernel_rfl) (L := []) (M := []) (by kernel_rfl) (by kernel_rfl) trivial trivial
def FA.l3xe0 : Sk := ⟨[], 24, [(3, .var (.int .i64))], [], []⟩
def FA.j59.k : Sk := ⟨[], 24, [(3, .var (.int .i64)), (6, .var (.sl 5 (.int .u8))), (7, .var (.int .i64)), (8, .var (.int .i64))], [], []⟩
def FA.l3.k : Sk := ⟨[], 24, [(3, .var (.int .i64)), (6, .var (.sl 5 (.int .u8))), (7, .var (.int .i64)), (8, .var (.int .i64))], [], []⟩
def FA.j59.X (U : AE → St → Prop) (x : Int × (List Int) × Int × Int × Unit) : Prop := FA.j59 (fun n3 t6 t7 t8 => U .normal (FA.l3.k.mk' (n3, t6, t7, t8, ()))) x.1 x.2.1 x.2.2.1 x.2.2.2.1
def FA.l3.ex : List (AE × Sk) := [((.exit 0), FA.l3xe0)]
def FA.l3.X (Q : AE → St → Prop) (n : Nat) (x : Int × (List Int) × Int × Int × Unit) : Prop := FA.l3 (fun n3 => Q (.exit 0) (FA.l3xe0.mk' (n3, ()))) n x.1 x.2.1 x.2.2.1 x.2.2.2.1
def FA.ct : Cuts := { lp := [(3, fun st Q => FA.l3.k.as st fun x => ∃ n, FA.l3.X Q n x)], jn := [(59, fun st U => FA.j59.k.as st (FA.j59.X U))], ex := [], pl := [] }
def FA.cx : Cx := cxOf tyL byL ptrL borL rowL false [] [] [] [] [] glL [] tyR [] []
def FA.us : List (Nat × ((AE → St → Prop) → AE → St → Prop)) := [(3, lpV FA.l3.k FA.l3.ex)]
theorem FA.j59.eq (U : AE → St → Prop) (x : FA.j59.k.D) : FA.j59.X U x = awp FA.cx FA.ct (jnAt 59 FA.cx FA.ct Tryd.f64).code ((lpV FA.l3.k FA.l3.ex) U) ((jnAt 59 FA.cx FA.ct Tryd.f64).cont ((lpV FA.l3.k FA.l3.ex) U)) (FA.j59.k.mk' x) := by kernel_rfl
theorem FA.j59.jn : JnOk FA.cx FA.ct (usOf FA.ct.ex FA.us) (jnAt 59 FA.cx FA.ct Tryd.f64) := jn_gen (some 3) (by kernel_rfl) FA.j59.k FA.j59.X (lpV FA.l3.k FA.l3.ex) (by kernel_rfl) (fun U h => h) FA.j59.eq
theorem FA.l3.eq (Q : AE → St → Prop) (n : Nat) (x : FA.l3.k.D) : FA.l3.X Q (n + 1) x = awp FA.cx FA.ct (lpAt 3 Tryd.f64) (lpQ FA.l3.k (FA.l3.X Q n) FA.l3.ex Q) (lpQ FA.l3.k (FA.l3.X Q n) FA.l3.ex Q) (FA.l3.k.mk' x) := by kernel_rfl
theorem FA.l3.lp : LpOk FA.cx FA.ct (usOf FA.ct.ex FA.us) (lpAt 3 Tryd.f64) := lp_gen 3 (by kernel_rfl) FA.l3.k FA.l3.ex FA.l3.X (by kernel_rfl) (by intro Q x; kernel_rfl) FA.l3.eq (fun Q n => lpV_lpQ (by kernel_rfl) (by kernel_rfl))
def FA.ps : List PS := [.t (.sl 5 (.int .u8))]
def FA.G (x : (List Int) × Unit) (J : List AV0 → Prop) : Prop := FA x.1 (fun r0 => J [.tv (.int .i64) r0])
def FA.F : List AV0 → (List AV0 → Prop) → Prop := byPs FA.ps FA.G
theorem FA.eq (x : psD FA.ps) (J : List AV0 → Prop) : FA.G x J = fnA FA.cx FA.ct Tryd.f64 (psMk FA.ps x) J := by kernel_rfl
theorem FA.good : Go.Iv.Good Tryd.prog 64 FA.F := good_gen (us := FA.us) (cxOk base rows (l := []) (scL := []) trivial trivial glOk rtOk) Tryd.func64 (by kernel_rfl) (by kernel_rfl) FA.ps FA.G FA.eq (by kernel_rfl) (by kernel_rfl) (L := [lpAt 3 Tryd.f64]) (M := [jnAt 59 FA.cx FA.ct Tryd.f64]) (by kernel_rfl) (by kernel_rfl) ⟨FA.l3.lp, trivial⟩ ⟨FA.j59.jn, trivial⟩
def EB.ct : Cuts := { lp := [], jn := [], ex := [], pl := [] }
def EB.cx : Cx := cxOf tyL byL ptrL borL rowL false [] [] [] [] [] glL [] tyR [] []
def EB.us : List (Nat × ((AE → St → Prop) → AE → St → Prop)) := []
def EB.ps : List PS := [.t (.int .i64)]
def EB.G (x : Int × Unit) (J : List AV0 → Prop) : Prop := EB x.1 (fun r0 => J [.tv (.int .i64) r0])
def EB.F : List AV0 → (List AV0 → Prop) → Prop := byPs EB.ps EB.G
theorem EB.eq (x : psD EB.ps) (J : List AV0 → Prop) : EB.G x J = fnA EB.cx EB.ct Tryd.f33 (psMk EB.ps x) J := by kernel_rfl
theorem EB.good : Go.Iv.Good Tryd.prog 33 EB.F := good_gen (us := EB.us) (cxOk base rows (l := []) (scL := []) trivial trivial glOk rtOk) Tryd.func33 (by kernel_rfl) (by kernel_rfl) EB.ps EB.G EB.eq (by kernel_rfl) (by kernel_rfl) (L := []) (M := []) (by kernel_rfl) (by kernel_rfl) trivial trivial
def YA.ct : Cuts := { lp := [], jn := [], ex := [], pl := [] }
def YA.cx : Cx := cxOf tyL byL ptrL borL rowL false [] [] [] [] [] glL [] tyR [] []
def YA.us : List (Nat × ((AE → St → Prop) → AE → St → Prop)) := []
def YA.ps : List PS := [.t (.int .u32), .t (.int .i64)]
def YA.G (x : Int × Int × Unit) (J : List AV0 → Prop) : Prop := YA x.1 x.2.1 (fun r0 => J [.tv (.int .u32) r0])
def YA.F : List AV0 → (List AV0 → Prop) → Prop := byPs YA.ps YA.G
theorem YA.eq (x : psD YA.ps) (J : List AV0 → Prop) : YA.G x J = fnA YA.cx YA.ct Tryd.f72 (psMk YA.ps x) J := by kernel_rfl
theorem YA.good : Go.Iv.Good Tryd.prog 72 YA.F := good_gen (us := YA.us) (cxOk base rows (l := []) (scL := []) trivial trivial glOk rtOk) Tryd.func72 (by kernel_rfl) (by kernel_rfl) YA.ps YA.G YA.eq (by kernel_rfl) (by kernel_rfl) (L := []) (M := []) (by kernel_rfl) (by kernel_rfl) trivial trivial
end Go.Iw
