/- The program's functions do what the plain ones do. -/
import Derived.Test.YtecohedcbnfibaaDoorYHd
namespace Go.Iw
open Go.Iv Go.Proofs
attribute [local irreducible] fnA fnAS awp
set_option maxHeartbeats 4000000
set_option maxRecDepth 100000
set_option linter.unusedVariables false
def check.Of.l3xe0 : Sk := ⟨[], 36, [(3, .var (.int .u32))], [], []⟩
def check.Of.l3.k : Sk := ⟨[], 36, [(3, .var (.int .u32)), (6, .var (.sl 5 (.int .u8))), (7, .var (.int .i64)), (8, .var (.int .i64))], [], []⟩
def check.Of.l3.ex : List (AE × Sk) := [((.exit 0), check.Of.l3xe0)]
def check.Of.l3.X (Q : AE → St → Prop) (n : Nat) (x : Int × (List Int) × Int × Int × Unit) : Prop := check.Of.l3 (fun r3 => Q (.exit 0) (check.Of.l3xe0.mk' (r3, ()))) n x.1 x.2.1 x.2.2.1 x.2.2.2.1
def check.Of.ct : Cuts := { lp := [(3, fun st Q => check.Of.l3.k.as st fun x => ∃ n, check.Of.l3.X Q n x)], jn := [], ex := [], pl := [] }
def check.Of.cx : Cx := cxOf tyL byL ptrL borL rowL false [] [] [] [] [] glL [] tyR [] []
def check.Of.us : List (Nat × ((AE → St → Prop) → AE → St → Prop)) := []
theorem check.Of.l3.eq (Q : AE → St → Prop) (n : Nat) (x : check.Of.l3.k.D) : check.Of.l3.X Q (n + 1) x = awp check.Of.cx check.Of.ct (lpAt 3 Tryd.f70) (lpQ check.Of.l3.k (check.Of.l3.X Q n) check.Of.l3.ex Q) (lpQ check.Of.l3.k (check.Of.l3.X Q n) check.Of.l3.ex Q) (check.Of.l3.k.mk' x) := by kernel_rfl
theorem check.Of.l3.lp : LpOk check.Of.cx check.Of.ct (usOf check.Of.ct.ex check.Of.us) (lpAt 3 Tryd.f70) := lp_gen 3 (by kernel_rfl) check.Of.l3.k check.Of.l3.ex check.Of.l3.X (by kernel_rfl) (by intro Q x; kernel_rfl) check.Of.l3.eq (fun _ _ => trivial)
def check.Of.ps : List PS := [.t (.sl 5 (.int .u8))]
def check.Of.G (x : (List Int) × Unit) (J : List AV0 → Prop) : Prop := check.Of x.1 (fun r0 => J [.tv (.int .u32) r0])
def check.Of.F : List AV0 → (List AV0 → Prop) → Prop := byPs check.Of.ps check.Of.G
theorem check.Of.eq (x : psD check.Of.ps) (J : List AV0 → Prop) : check.Of.G x J = fnA check.Of.cx check.Of.ct Tryd.f70 (psMk check.Of.ps x) J := by kernel_rfl
theorem check.Of.good : Go.Iv.Good Tryd.prog 70 check.Of.F := good_gen (us := check.Of.us) (cxOk base rows (l := []) (scL := []) trivial trivial glOk rtOk) Tryd.func70 (by kernel_rfl) (by kernel_rfl) check.Of.ps check.Of.G check.Of.eq (by kernel_rfl) (by kernel_rfl) (L := [lpAt 3 Tryd.f70]) (M := []) (by kernel_rfl) (by kernel_rfl) ⟨check.Of.l3.lp, trivial⟩ trivial
def check.Four.ct : Cuts := { lp := [], jn := [], ex := [], pl := [] }
def check.Four.cx : Cx := cxOf tyL byL ptrL borL rowL true [] [2] [] [] [] glL [] tyR [] []
def check.Four.us : List (Nat × ((AE → St → Prop) → AE → St → Prop)) := []
def check.Four.ps : List PS := [.t (.int .i64)]
def check.Four.G (x : Int × Unit) (J : List AV0 → Prop) : Prop := check.Four x.1 (fun r0 => J [.own 5 (.int .u8) r0])
def check.Four.F : List AV0 → (List AV0 → Prop) → Prop := byPs check.Four.ps check.Four.G
theorem check.Four.eq (x : psD check.Four.ps) (J : List AV0 → Prop) : check.Four.G x J = fnA check.Four.cx check.Four.ct Tryd.f69 (psMk check.Four.ps x) J := by kernel_rfl
theorem check.Four.good : Go.Iv.Good Tryd.prog 69 check.Four.F := good_gen (us := check.Four.us) (cxOk base rows (l := []) (scL := []) trivial trivial glOk rtOk) Tryd.func69 (by kernel_rfl) (by kernel_rfl) check.Four.ps check.Four.G check.Four.eq (by kernel_rfl) (by kernel_rfl) (L := []) (M := []) (by kernel_rfl) (by kernel_rfl) trivial trivial
def check.Seal.ct : Cuts := { lp := [], jn := [], ex := [], pl := [] }
def check.Seal.cx : Cx := cxOf tyL byL ptrL borL rowL false [(70, check.Of.F)] [3, 2] [] [] [] glL [] tyR [] []
def check.Seal.us : List (Nat × ((AE → St → Prop) → AE → St → Prop)) := []
def check.Seal.ps : List PS := [.t (.sl 5 (.int .u8))]
def check.Seal.G (x : (List Int) × Unit) (J : List AV0 → Prop) : Prop := check.Seal x.1 (fun r0 => J [.tv (.sl 5 (.int .u8)) r0])
def check.Seal.F : List AV0 → (List AV0 → Prop) → Prop := byPs check.Seal.ps check.Seal.G
theorem check.Seal.eq (x : psD check.Seal.ps) (J : List AV0 → Prop) : check.Seal.G x J = fnA check.Seal.cx check.Seal.ct Tryd.f57 (psMk check.Seal.ps x) J := by kernel_rfl
theorem check.Seal.good : Go.Iv.Good Tryd.prog 57 check.Seal.F := good_gen (us := check.Seal.us) (cxOk base rows (l := [(70, check.Of.F)]) (scL := []) ⟨check.Of.good, trivial⟩ trivial glOk rtOk) Tryd.func57 (by kernel_rfl) (by kernel_rfl) check.Seal.ps check.Seal.G check.Seal.eq (by kernel_rfl) (by kernel_rfl) (L := []) (M := []) (by kernel_rfl) (by kernel_rfl) trivial trivial
def check.Open.ct : Cuts := { lp := [], jn := [], ex := [], pl := [(4, [.frz 4, .any [] [(0, []), (1, []), (2, []), (3, []), (4, []), (5, [])]])] }
def check.Open.cx : Cx := cxOf tyL byL ptrL borL rowL false [(57, check.Seal.F)] [4, 2] [] [] [] glL [] tyR [] []
def check.Open.us : List (Nat × ((AE → St → Prop) → AE → St → Prop)) := []
def check.Open.ps : List PS := [.t (.sl 5 (.int .u8))]
def check.Open.G (x : (List Int) × Unit) (J : List AV0 → Prop) : Prop := check.Open x.1 (fun r0 r1 => J [.tv (.sl 5 (.int .u8)) r0, .tv .bool r1])
def check.Open.F : List AV0 → (List AV0 → Prop) → Prop := byPs check.Open.ps check.Open.G
theorem check.Open.eq (x : psD check.Open.ps) (J : List AV0 → Prop) : check.Open.G x J = fnA check.Open.cx check.Open.ct Tryd.f52 (psMk check.Open.ps x) J := by kernel_rfl
theorem check.Open.good : Go.Iv.Good Tryd.prog 52 check.Open.F := good_gen (us := check.Open.us) (cxOk base rows (l := [(57, check.Seal.F)]) (scL := []) ⟨check.Seal.good, trivial⟩ trivial glOk rtOk) Tryd.func52 (by kernel_rfl) (by kernel_rfl) check.Open.ps check.Open.G check.Open.eq (by kernel_rfl) (by kernel_rfl) (L := []) (M := []) (by kernel_rfl) (by kernel_rfl) trivial trivial
def check.Number.l3xe0 : Sk := ⟨[], 24, [(3, .var (.int .i64))], [], []⟩
def check.Number.j59.k : Sk := ⟨[], 24, [(3, .var (.int .i64)), (6, .var (.sl 5 (.int .u8))), (7, .var (.int .i64)), (8, .var (.int .i64))], [], []⟩
def check.Number.l3.k : Sk := ⟨[], 24, [(3, .var (.int .i64)), (6, .var (.sl 5 (.int .u8))), (7, .var (.int .i64)), (8, .var (.int .i64))], [], []⟩
def check.Number.j59.X (U : AE → St → Prop) (x : Int × (List Int) × Int × Int × Unit) : Prop := check.Number.j59 (fun n3 t6 t7 t8 => U .normal (check.Number.l3.k.mk' (n3, t6, t7, t8, ()))) x.1 x.2.1 x.2.2.1 x.2.2.2.1
def check.Number.l3.ex : List (AE × Sk) := [((.exit 0), check.Number.l3xe0)]
def check.Number.l3.X (Q : AE → St → Prop) (n : Nat) (x : Int × (List Int) × Int × Int × Unit) : Prop := check.Number.l3 (fun n3 => Q (.exit 0) (check.Number.l3xe0.mk' (n3, ()))) n x.1 x.2.1 x.2.2.1 x.2.2.2.1
def check.Number.ct : Cuts := { lp := [(3, fun st Q => check.Number.l3.k.as st fun x => ∃ n, check.Number.l3.X Q n x)], jn := [(59, fun st U => check.Number.j59.k.as st (check.Number.j59.X U))], ex := [], pl := [] }
def check.Number.cx : Cx := cxOf tyL byL ptrL borL rowL false [] [] [] [] [] glL [] tyR [] []
def check.Number.us : List (Nat × ((AE → St → Prop) → AE → St → Prop)) := [(3, lpV check.Number.l3.k check.Number.l3.ex)]
theorem check.Number.j59.eq (U : AE → St → Prop) (x : check.Number.j59.k.D) : check.Number.j59.X U x = awp check.Number.cx check.Number.ct (jnAt 59 check.Number.cx check.Number.ct Tryd.f51).code ((lpV check.Number.l3.k check.Number.l3.ex) U) ((jnAt 59 check.Number.cx check.Number.ct Tryd.f51).cont ((lpV check.Number.l3.k check.Number.l3.ex) U)) (check.Number.j59.k.mk' x) := by kernel_rfl
theorem check.Number.j59.jn : JnOk check.Number.cx check.Number.ct (usOf check.Number.ct.ex check.Number.us) (jnAt 59 check.Number.cx check.Number.ct Tryd.f51) := jn_gen (some 3) (by kernel_rfl) check.Number.j59.k check.Number.j59.X (lpV check.Number.l3.k check.Number.l3.ex) (by kernel_rfl) (fun U h => h) check.Number.j59.eq
theorem check.Number.l3.eq (Q : AE → St → Prop) (n : Nat) (x : check.Number.l3.k.D) : check.Number.l3.X Q (n + 1) x = awp check.Number.cx check.Number.ct (lpAt 3 Tryd.f51) (lpQ check.Number.l3.k (check.Number.l3.X Q n) check.Number.l3.ex Q) (lpQ check.Number.l3.k (check.Number.l3.X Q n) check.Number.l3.ex Q) (check.Number.l3.k.mk' x) := by kernel_rfl
theorem check.Number.l3.lp : LpOk check.Number.cx check.Number.ct (usOf check.Number.ct.ex check.Number.us) (lpAt 3 Tryd.f51) := lp_gen 3 (by kernel_rfl) check.Number.l3.k check.Number.l3.ex check.Number.l3.X (by kernel_rfl) (by intro Q x; kernel_rfl) check.Number.l3.eq (fun Q n => lpV_lpQ (by kernel_rfl) (by kernel_rfl))
def check.Number.ps : List PS := [.t (.sl 5 (.int .u8))]
def check.Number.G (x : (List Int) × Unit) (J : List AV0 → Prop) : Prop := check.Number x.1 (fun r0 => J [.tv (.int .i64) r0])
def check.Number.F : List AV0 → (List AV0 → Prop) → Prop := byPs check.Number.ps check.Number.G
theorem check.Number.eq (x : psD check.Number.ps) (J : List AV0 → Prop) : check.Number.G x J = fnA check.Number.cx check.Number.ct Tryd.f51 (psMk check.Number.ps x) J := by kernel_rfl
theorem check.Number.good : Go.Iv.Good Tryd.prog 51 check.Number.F := good_gen (us := check.Number.us) (cxOk base rows (l := []) (scL := []) trivial trivial glOk rtOk) Tryd.func51 (by kernel_rfl) (by kernel_rfl) check.Number.ps check.Number.G check.Number.eq (by kernel_rfl) (by kernel_rfl) (L := [lpAt 3 Tryd.f51]) (M := [jnAt 59 check.Number.cx check.Number.ct Tryd.f51]) (by kernel_rfl) (by kernel_rfl) ⟨check.Number.l3.lp, trivial⟩ ⟨check.Number.j59.jn, trivial⟩
def label.pack.xr : Sk := ⟨[], 30, [(2, .var (.sl 5 (.int .u8)))], [], []⟩
def label.pack.j25.k : Sk := ⟨[], 30, [(1, .ptr 1 0), (3, .row 3)], [(1, .box 34 tRef), (3, .row 5 (.int .u8))], []⟩
def label.pack.j25.X (U : AE → St → Prop) (x : Ref × (List Int) × Unit) : Prop := label.pack.j25 (fun t2 => U .ret (label.pack.xr.mk' (t2, ()))) x.1 x.2.1
def label.pack.ct : Cuts := { lp := [], jn := [(25, fun st U => label.pack.j25.k.as st (label.pack.j25.X U))], ex := [(.ret, label.pack.xr)], pl := [(6, [.app [] [(0, [19]), (1, [19]), (2, [19]), (4, [19, 3]), (5, [19, 3]), (6, [19, 3]), (7, [19, 3])] 3, .one 8, .one 9])] }
def label.pack.cx : Cx := cxOf tyL byL ptrL borL rowL false [(57, check.Seal.F)] [3] [] [] [] glL [] tyR [] []
def label.pack.us : List (Nat × ((AE → St → Prop) → AE → St → Prop)) := []
theorem label.pack.j25.eq (U : AE → St → Prop) (x : label.pack.j25.k.D) : label.pack.j25.X U x = awp label.pack.cx label.pack.ct (jnAt 25 label.pack.cx label.pack.ct Tryd.f50).code ((fnV label.pack.ct.ex) U) ((jnAt 25 label.pack.cx label.pack.ct Tryd.f50).cont ((fnV label.pack.ct.ex) U)) (label.pack.j25.k.mk' x) := by kernel_rfl
theorem label.pack.j25.jn : JnOk label.pack.cx label.pack.ct (usOf label.pack.ct.ex label.pack.us) (jnAt 25 label.pack.cx label.pack.ct Tryd.f50) := jn_gen none (by kernel_rfl) label.pack.j25.k label.pack.j25.X (fnV label.pack.ct.ex) (by kernel_rfl) (fun U h => h) label.pack.j25.eq
def label.pack.ps : List PS := [.t tRef]
def label.pack.G (x : Ref × Unit) (J : List AV0 → Prop) : Prop := label.pack x.1 (fun r0 => J [.tv (.sl 5 (.int .u8)) r0])
def label.pack.F : List AV0 → (List AV0 → Prop) → Prop := byPs label.pack.ps label.pack.G
theorem label.pack.eq (x : psD label.pack.ps) (J : List AV0 → Prop) : label.pack.G x J = fnA label.pack.cx label.pack.ct Tryd.f50 (psMk label.pack.ps x) J := by kernel_rfl
theorem label.pack.good : Go.Iv.Good Tryd.prog 50 label.pack.F := good_gen (us := label.pack.us) (cxOk base rows (l := [(57, check.Seal.F)]) (scL := []) ⟨check.Seal.good, trivial⟩ trivial glOk rtOk) Tryd.func50 (by kernel_rfl) (by kernel_rfl) label.pack.ps label.pack.G label.pack.eq (by kernel_rfl) (by kernel_rfl) (L := []) (M := [jnAt 25 label.pack.cx label.pack.ct Tryd.f50]) (by kernel_rfl) (by kernel_rfl) trivial ⟨label.pack.j25.jn, trivial⟩
def label.unpack.xr : Sk := ⟨[], 70, [(2, .ptr 2 0), (3, .var .bool)], [(2, .box 34 tRef)], []⟩
def label.unpack.j18.k : Sk := ⟨[], 70, [(2, .ptr 2 0), (6, .ptr 6 0), (67, .var .bool)], [(2, .box 34 tRef), (6, .box 34 tRef)], []⟩
def label.unpack.j10.k : Sk := ⟨[], 70, [(0, .var (.sl 5 (.int .u8))), (2, .ptr 2 0), (4, .var (.sl 5 (.int .u8))), (37, .var .bool)], [(2, .box 34 tRef)], []⟩
def label.unpack.j18.X (U : AE → St → Prop) (x : Bool × Ref × Ref × Unit) : Prop := label.unpack.j18 (fun t3 ot2 => U .ret (label.unpack.xr.mk' (t3, ot2, ()))) x.1 x.2.1 x.2.2.1
def label.unpack.j10.X (U : AE → St → Prop) (x : (List Int) × (List Int) × Bool × Ref × Unit) : Prop := label.unpack.j10 (fun t3 ot2 => U .ret (label.unpack.xr.mk' (t3, ot2, ()))) x.1 x.2.1 x.2.2.1 x.2.2.2.1
def label.unpack.ct : Cuts := { lp := [], jn := [(10, fun st U => label.unpack.j10.k.as st (label.unpack.j10.X U)), (18, fun st U => label.unpack.j18.k.as st (label.unpack.j18.X U))], ex := [(.ret, label.unpack.xr)], pl := [(1, [.any [2] [(0, [9]), (1, [9]), (2, [9]), (3, []), (4, [])]]), (6, [.frz 4, .any [12] [(0, [6]), (1, [6]), (2, [6]), (3, [6]), (4, [6]), (5, [6]), (6, [6]), (7, [6]), (8, [6]), (9, [6]), (10, [6]), (11, [6]), (12, [6])], .one 13]), (7, [.frz 4, .any [] [(0, []), (1, []), (2, []), (3, [])], .one 4]), (8, [.any [] [(0, []), (1, []), (2, []), (3, []), (4, []), (5, []), (6, []), (7, []), (8, []), (9, []), (10, []), (11, [])]])] }
def label.unpack.cx : Cx := cxOf tyL byL ptrL borL rowL false [(50, label.pack.F), (10, label.Right.F), (52, check.Open.F)] [] [52] [] [] glL [] tyR [] []
def label.unpack.us : List (Nat × ((AE → St → Prop) → AE → St → Prop)) := []
theorem label.unpack.j18.eq (U : AE → St → Prop) (x : label.unpack.j18.k.D) : label.unpack.j18.X U x = awp label.unpack.cx label.unpack.ct (jnAt 18 label.unpack.cx label.unpack.ct Tryd.f42).code ((fnV label.unpack.ct.ex) U) ((jnAt 18 label.unpack.cx label.unpack.ct Tryd.f42).cont ((fnV label.unpack.ct.ex) U)) (label.unpack.j18.k.mk' x) := by kernel_rfl
theorem label.unpack.j18.jn : JnOk label.unpack.cx label.unpack.ct (usOf label.unpack.ct.ex label.unpack.us) (jnAt 18 label.unpack.cx label.unpack.ct Tryd.f42) := jn_gen none (by kernel_rfl) label.unpack.j18.k label.unpack.j18.X (fnV label.unpack.ct.ex) (by kernel_rfl) (fun U h => h) label.unpack.j18.eq
theorem label.unpack.j10.eq (U : AE → St → Prop) (x : label.unpack.j10.k.D) : label.unpack.j10.X U x = awp label.unpack.cx label.unpack.ct (jnAt 10 label.unpack.cx label.unpack.ct Tryd.f42).code ((fnV label.unpack.ct.ex) U) ((jnAt 10 label.unpack.cx label.unpack.ct Tryd.f42).cont ((fnV label.unpack.ct.ex) U)) (label.unpack.j10.k.mk' x) := by kernel_rfl
theorem label.unpack.j10.jn : JnOk label.unpack.cx label.unpack.ct (usOf label.unpack.ct.ex label.unpack.us) (jnAt 10 label.unpack.cx label.unpack.ct Tryd.f42) := jn_gen none (by kernel_rfl) label.unpack.j10.k label.unpack.j10.X (fnV label.unpack.ct.ex) (by kernel_rfl) (fun U h => h) label.unpack.j10.eq
def label.unpack.ps : List PS := [.t (.sl 5 (.int .u8))]
def label.unpack.G (x : (List Int) × Unit) (J : List AV0 → Prop) : Prop := label.unpack x.1 (fun r0 r1 => J [.tv tRef r0, .tv .bool r1])
def label.unpack.F : List AV0 → (List AV0 → Prop) → Prop := byPs label.unpack.ps label.unpack.G
theorem label.unpack.eq (x : psD label.unpack.ps) (J : List AV0 → Prop) : label.unpack.G x J = fnA label.unpack.cx label.unpack.ct Tryd.f42 (psMk label.unpack.ps x) J := by kernel_rfl
theorem label.unpack.good : Go.Iv.Good Tryd.prog 42 label.unpack.F := good_gen (us := label.unpack.us) (cxOk base rows (l := [(50, label.pack.F), (10, label.Right.F), (52, check.Open.F)]) (scL := []) ⟨label.pack.good, label.Right.good, check.Open.good, trivial⟩ trivial glOk rtOk) Tryd.func42 (by kernel_rfl) (by kernel_rfl) label.unpack.ps label.unpack.G label.unpack.eq (by kernel_rfl) (by kernel_rfl) (L := []) (M := [jnAt 10 label.unpack.cx label.unpack.ct Tryd.f42, jnAt 18 label.unpack.cx label.unpack.ct Tryd.f42]) (by kernel_rfl) (by kernel_rfl) trivial ⟨label.unpack.j10.jn, label.unpack.j18.jn, trivial⟩
def label.Table_find_c1.ct : Cuts := { lp := [], jn := [], ex := [], pl := [] }
def label.Table_find_c1.cx : Cx := cxOf tyL byL ptrL borL rowL false [] [] [] [] [] glL [] tyR [] []
def label.Table_find_c1.us : List (Nat × ((AE → St → Prop) → AE → St → Prop)) := []
def label.Table_find_c1.ps : List PS := [.t tRef, .rp .str]
def label.Table_find_c1.G (x : Ref × ByteArray × Unit) (J : List AV0 → Prop) : Prop := label.Table_find_c1 x.1 x.2.1 (fun r0 => J [.tv .bool r0])
def label.Table_find_c1.F : List AV0 → (List AV0 → Prop) → Prop := byPs label.Table_find_c1.ps label.Table_find_c1.G
theorem label.Table_find_c1.eq (x : psD label.Table_find_c1.ps) (J : List AV0 → Prop) : label.Table_find_c1.G x J = fnA label.Table_find_c1.cx label.Table_find_c1.ct Tryd.f48 (psMk label.Table_find_c1.ps x) J := by kernel_rfl
theorem label.Table_find_c1.good : Go.Iv.Good Tryd.prog 48 label.Table_find_c1.F := good_gen (us := label.Table_find_c1.us) (cxOk base rows (l := []) (scL := []) trivial trivial glOk rtOk) Tryd.func48 (by kernel_rfl) (by kernel_rfl) label.Table_find_c1.ps label.Table_find_c1.G label.Table_find_c1.eq (by kernel_rfl) (by kernel_rfl) (L := []) (M := []) (by kernel_rfl) (by kernel_rfl) trivial trivial
def slices.IndexFunc_Ref_Ref.l2xr : Sk := ⟨[], 19, [(4, .var (.int .i64))], [], []⟩
def slices.IndexFunc_Ref_Ref.l2xe0 : Sk := ⟨[], 19, [], [], []⟩
def slices.IndexFunc_Ref_Ref.l2.k : Sk := ⟨[], 19, [(0, .var (.sl 34 tRef)), (1, .clo 48 .str), (7, .var (.int .i64)), (8, .var (.int .i64))], [], []⟩
def slices.IndexFunc_Ref_Ref.l2.ex : List (AE × Sk) := [(.ret, slices.IndexFunc_Ref_Ref.l2xr), ((.exit 0), slices.IndexFunc_Ref_Ref.l2xe0)]
def slices.IndexFunc_Ref_Ref.l2.X (Q : AE → St → Prop) (n : Nat) (x : (List Ref) × ByteArray × Int × Int × Unit) : Prop := slices.IndexFunc_Ref_Ref.l2 (fun t4 => Q .ret (slices.IndexFunc_Ref_Ref.l2xr.mk' (t4, ()))) (Q (.exit 0) (slices.IndexFunc_Ref_Ref.l2xe0.mk' ())) n x.1 x.2.1 x.2.2.1 x.2.2.2.1
def slices.IndexFunc_Ref_Ref.ct : Cuts := { lp := [(2, fun st Q => slices.IndexFunc_Ref_Ref.l2.k.as st fun x => ∃ n, slices.IndexFunc_Ref_Ref.l2.X Q n x)], jn := [], ex := [], pl := [] }
def slices.IndexFunc_Ref_Ref.cx : Cx := cxOf tyL byL ptrL borL rowL false [(48, label.Table_find_c1.F)] [] [] [] [] glL [] tyR [] []
def slices.IndexFunc_Ref_Ref.us : List (Nat × ((AE → St → Prop) → AE → St → Prop)) := []
theorem slices.IndexFunc_Ref_Ref.l2.eq (Q : AE → St → Prop) (n : Nat) (x : slices.IndexFunc_Ref_Ref.l2.k.D) : slices.IndexFunc_Ref_Ref.l2.X Q (n + 1) x = awp slices.IndexFunc_Ref_Ref.cx slices.IndexFunc_Ref_Ref.ct (lpAt 2 Tryd.f47) (lpQ slices.IndexFunc_Ref_Ref.l2.k (slices.IndexFunc_Ref_Ref.l2.X Q n) slices.IndexFunc_Ref_Ref.l2.ex Q) (lpQ slices.IndexFunc_Ref_Ref.l2.k (slices.IndexFunc_Ref_Ref.l2.X Q n) slices.IndexFunc_Ref_Ref.l2.ex Q) (slices.IndexFunc_Ref_Ref.l2.k.mk' x) := by kernel_rfl
theorem slices.IndexFunc_Ref_Ref.l2.lp : LpOk slices.IndexFunc_Ref_Ref.cx slices.IndexFunc_Ref_Ref.ct (usOf slices.IndexFunc_Ref_Ref.ct.ex slices.IndexFunc_Ref_Ref.us) (lpAt 2 Tryd.f47) := lp_gen 2 (by kernel_rfl) slices.IndexFunc_Ref_Ref.l2.k slices.IndexFunc_Ref_Ref.l2.ex slices.IndexFunc_Ref_Ref.l2.X (by kernel_rfl) (by intro Q x; kernel_rfl) slices.IndexFunc_Ref_Ref.l2.eq (fun _ _ => trivial)
def slices.IndexFunc_Ref_Ref.ps : List PS := [.t (.sl 34 tRef), .clo 48 .str]
def slices.IndexFunc_Ref_Ref.G (x : (List Ref) × ByteArray × Unit) (J : List AV0 → Prop) : Prop := slices.IndexFunc_Ref_Ref x.1 x.2.1 (fun r0 => J [.tv (.int .i64) r0])
def slices.IndexFunc_Ref_Ref.F : List AV0 → (List AV0 → Prop) → Prop := byPs slices.IndexFunc_Ref_Ref.ps slices.IndexFunc_Ref_Ref.G
theorem slices.IndexFunc_Ref_Ref.eq (x : psD slices.IndexFunc_Ref_Ref.ps) (J : List AV0 → Prop) : slices.IndexFunc_Ref_Ref.G x J = fnA slices.IndexFunc_Ref_Ref.cx slices.IndexFunc_Ref_Ref.ct Tryd.f47 (psMk slices.IndexFunc_Ref_Ref.ps x) J := by kernel_rfl
theorem slices.IndexFunc_Ref_Ref.good : Go.Iv.Good Tryd.prog 47 slices.IndexFunc_Ref_Ref.F := good_gen (us := slices.IndexFunc_Ref_Ref.us) (cxOk base rows (l := [(48, label.Table_find_c1.F)]) (scL := []) ⟨label.Table_find_c1.good, trivial⟩ trivial glOk rtOk) Tryd.func47 (by kernel_rfl) (by kernel_rfl) slices.IndexFunc_Ref_Ref.ps slices.IndexFunc_Ref_Ref.G slices.IndexFunc_Ref_Ref.eq (by kernel_rfl) (by kernel_rfl) (L := [lpAt 2 Tryd.f47]) (M := []) (by kernel_rfl) (by kernel_rfl) ⟨slices.IndexFunc_Ref_Ref.l2.lp, trivial⟩ trivial
def label.Table_find.ct : Cuts := { lp := [], jn := [], ex := [], pl := [] }
def label.Table_find.cx : Cx := cxOf tyL byL ptrL borL rowL false [(47, slices.IndexFunc_Ref_Ref.F)] [] [] [] [] glL [] tyR [] []
def label.Table_find.us : List (Nat × ((AE → St → Prop) → AE → St → Prop)) := []
def label.Table_find.ps : List PS := [.rp tTable, .t .str]
def label.Table_find.G (x : Table × ByteArray × Unit) (J : List AV0 → Prop) : Prop := label.Table_find x.1 x.2.1 (fun r0 => J [.tv (.int .i64) r0])
def label.Table_find.F : List AV0 → (List AV0 → Prop) → Prop := byPs label.Table_find.ps label.Table_find.G
theorem label.Table_find.eq (x : psD label.Table_find.ps) (J : List AV0 → Prop) : label.Table_find.G x J = fnA label.Table_find.cx label.Table_find.ct Tryd.f30 (psMk label.Table_find.ps x) J := by kernel_rfl
theorem label.Table_find.good : Go.Iv.Good Tryd.prog 30 label.Table_find.F := good_gen (us := label.Table_find.us) (cxOk base rows (l := [(47, slices.IndexFunc_Ref_Ref.F)]) (scL := []) ⟨slices.IndexFunc_Ref_Ref.good, trivial⟩ trivial glOk rtOk) Tryd.func30 (by kernel_rfl) (by kernel_rfl) label.Table_find.ps label.Table_find.G label.Table_find.eq (by kernel_rfl) (by kernel_rfl) (L := []) (M := []) (by kernel_rfl) (by kernel_rfl) trivial trivial
def disk.Disk_Sectors.ct : Cuts := { lp := [], jn := [], ex := [], pl := [] }
def disk.Disk_Sectors.cx : Cx := cxOf tyL byL ptrL borL rowL false [] [] [] [] [] glL [] tyR [] []
def disk.Disk_Sectors.us : List (Nat × ((AE → St → Prop) → AE → St → Prop)) := []
def disk.Disk_Sectors.ps : List PS := [.rp tDisk]
def disk.Disk_Sectors.G (x : Disk × Unit) (J : List AV0 → Prop) : Prop := disk.Disk_Sectors x.1 (fun r0 => J [.tv (.int .i64) r0])
def disk.Disk_Sectors.F : List AV0 → (List AV0 → Prop) → Prop := byPs disk.Disk_Sectors.ps disk.Disk_Sectors.G
theorem disk.Disk_Sectors.eq (x : psD disk.Disk_Sectors.ps) (J : List AV0 → Prop) : disk.Disk_Sectors.G x J = fnA disk.Disk_Sectors.cx disk.Disk_Sectors.ct Tryd.f34 (psMk disk.Disk_Sectors.ps x) J := by kernel_rfl
theorem disk.Disk_Sectors.good : Go.Iv.Good Tryd.prog 34 disk.Disk_Sectors.F := good_gen (us := disk.Disk_Sectors.us) (cxOk base rows (l := []) (scL := []) trivial trivial glOk rtOk) Tryd.func34 (by kernel_rfl) (by kernel_rfl) disk.Disk_Sectors.ps disk.Disk_Sectors.G disk.Disk_Sectors.eq (by kernel_rfl) (by kernel_rfl) (L := []) (M := []) (by kernel_rfl) (by kernel_rfl) trivial trivial
def journal.Journal_Sectors.ct : Cuts := { lp := [], jn := [], ex := [], pl := [] }
def journal.Journal_Sectors.cx : Cx := cxOf tyL byL ptrL borL rowL false [(34, disk.Disk_Sectors.F)] [] [] [] [] glL [] tyR [] []
def journal.Journal_Sectors.us : List (Nat × ((AE → St → Prop) → AE → St → Prop)) := []
def journal.Journal_Sectors.ps : List PS := [.rp tJournal]
def journal.Journal_Sectors.G (x : Journal × Unit) (J : List AV0 → Prop) : Prop := journal.Journal_Sectors x.1 (fun r0 => J [.tv (.int .i64) r0])
def journal.Journal_Sectors.F : List AV0 → (List AV0 → Prop) → Prop := byPs journal.Journal_Sectors.ps journal.Journal_Sectors.G
theorem journal.Journal_Sectors.eq (x : psD journal.Journal_Sectors.ps) (J : List AV0 → Prop) : journal.Journal_Sectors.G x J = fnA journal.Journal_Sectors.cx journal.Journal_Sectors.ct Tryd.f40 (psMk journal.Journal_Sectors.ps x) J := by kernel_rfl
theorem journal.Journal_Sectors.good : Go.Iv.Good Tryd.prog 40 journal.Journal_Sectors.F := good_gen (us := journal.Journal_Sectors.us) (cxOk base rows (l := [(34, disk.Disk_Sectors.F)]) (scL := []) ⟨disk.Disk_Sectors.good, trivial⟩ trivial glOk rtOk) Tryd.func40 (by kernel_rfl) (by kernel_rfl) journal.Journal_Sectors.ps journal.Journal_Sectors.G journal.Journal_Sectors.eq (by kernel_rfl) (by kernel_rfl) (L := []) (M := []) (by kernel_rfl) (by kernel_rfl) trivial trivial
def journal.Journal_Sectors_n.ct : Cuts := { lp := [], jn := [], ex := [], pl := [] }
def journal.Journal_Sectors_n.cx : Cx := cxOf tyL byL ptrL borL rowL false [] [] [] [] [] glL [] tyR [] []
def journal.Journal_Sectors_n.us : List (Nat × ((AE → St → Prop) → AE → St → Prop)) := []
def journal.Journal_Sectors_n.ps : List PS := [.nil]
def journal.Journal_Sectors_n.G (x : Unit) (J : List AV0 → Prop) : Prop := journal.Journal_Sectors_n (fun r0 => J [.tv (.int .i64) r0])
def journal.Journal_Sectors_n.F : List AV0 → (List AV0 → Prop) → Prop := byPs journal.Journal_Sectors_n.ps journal.Journal_Sectors_n.G
theorem journal.Journal_Sectors_n.eq (x : psD journal.Journal_Sectors_n.ps) (J : List AV0 → Prop) : journal.Journal_Sectors_n.G x J = fnA journal.Journal_Sectors_n.cx journal.Journal_Sectors_n.ct Tryd.f40 (psMk journal.Journal_Sectors_n.ps x) J := by kernel_rfl
theorem journal.Journal_Sectors_n.good : Go.Iv.Good Tryd.prog 40 journal.Journal_Sectors_n.F := good_gen (us := journal.Journal_Sectors_n.us) (cxOk base rows (l := []) (scL := []) trivial trivial glOk rtOk) Tryd.func40 (by kernel_rfl) (by kernel_rfl) journal.Journal_Sectors_n.ps journal.Journal_Sectors_n.G journal.Journal_Sectors_n.eq (by kernel_rfl) (by kernel_rfl) (L := []) (M := []) (by kernel_rfl) (by kernel_rfl) trivial trivial
def label.Table_Get.xr : Sk := ⟨[], 27, [(4, .ptr 4 0), (5, .var (.int .i64))], [(4, .box 34 tRef)], []⟩
def label.Table_Get.j4.k : Sk := ⟨[], 27, [(0, .rvar tTable), (1, .var .str), (4, .ptr 4 0), (17, .var .bool)], [(4, .box 34 tRef)], []⟩
def label.Table_Get.j4.X (U : AE → St → Prop) (x : Table × ByteArray × Bool × Ref × Unit) : Prop := label.Table_Get.j4 (fun t5 ot4 => U .ret (label.Table_Get.xr.mk' (t5, ot4, ()))) x.1 x.2.1 x.2.2.1 x.2.2.2.1
def label.Table_Get.ct : Cuts := { lp := [], jn := [(4, fun st U => label.Table_Get.j4.k.as st (label.Table_Get.j4.X U))], ex := [(.ret, label.Table_Get.xr)], pl := [(3, [.any [] [(0, []), (1, []), (2, []), (3, []), (4, []), (5, []), (6, []), (7, [])], .one 8, .any [] [(9, [])]])] }
def label.Table_Get.cx : Cx := cxOf tyL byL ptrL borL rowL false [(30, label.Table_find.F)] [] [] [] [] glL [] tyR [] []
def label.Table_Get.us : List (Nat × ((AE → St → Prop) → AE → St → Prop)) := []
theorem label.Table_Get.j4.eq (U : AE → St → Prop) (x : label.Table_Get.j4.k.D) : label.Table_Get.j4.X U x = awp label.Table_Get.cx label.Table_Get.ct (jnAt 4 label.Table_Get.cx label.Table_Get.ct Tryd.f21).code ((fnV label.Table_Get.ct.ex) U) ((jnAt 4 label.Table_Get.cx label.Table_Get.ct Tryd.f21).cont ((fnV label.Table_Get.ct.ex) U)) (label.Table_Get.j4.k.mk' x) := by kernel_rfl
theorem label.Table_Get.j4.jn : JnOk label.Table_Get.cx label.Table_Get.ct (usOf label.Table_Get.ct.ex label.Table_Get.us) (jnAt 4 label.Table_Get.cx label.Table_Get.ct Tryd.f21) := jn_gen none (by kernel_rfl) label.Table_Get.j4.k label.Table_Get.j4.X (fnV label.Table_Get.ct.ex) (by kernel_rfl) (fun U h => h) label.Table_Get.j4.eq
def label.Table_Get.ps : List PS := [.rp tTable, .t .str]
def label.Table_Get.G (x : Table × ByteArray × Unit) (J : List AV0 → Prop) : Prop := label.Table_Get x.1 x.2.1 (fun r0 r1 => J [.tv tRef r0, .tv (.int .i64) r1])
def label.Table_Get.F : List AV0 → (List AV0 → Prop) → Prop := byPs label.Table_Get.ps label.Table_Get.G
theorem label.Table_Get.eq (x : psD label.Table_Get.ps) (J : List AV0 → Prop) : label.Table_Get.G x J = fnA label.Table_Get.cx label.Table_Get.ct Tryd.f21 (psMk label.Table_Get.ps x) J := by kernel_rfl
theorem label.Table_Get.good : Go.Iv.Good Tryd.prog 21 label.Table_Get.F := good_gen (us := label.Table_Get.us) (cxOk base rows (l := [(30, label.Table_find.F)]) (scL := []) ⟨label.Table_find.good, trivial⟩ trivial glOk rtOk) Tryd.func21 (by kernel_rfl) (by kernel_rfl) label.Table_Get.ps label.Table_Get.G label.Table_Get.eq (by kernel_rfl) (by kernel_rfl) (L := []) (M := [jnAt 4 label.Table_Get.cx label.Table_Get.ct Tryd.f21]) (by kernel_rfl) (by kernel_rfl) trivial ⟨label.Table_Get.j4.jn, trivial⟩
def label.Table_Get_n.ct : Cuts := { lp := [], jn := [], ex := [], pl := [(3, [.any [] [(0, []), (1, []), (2, []), (3, []), (4, []), (5, []), (6, []), (7, [])], .one 8, .any [] [(9, [])]])] }
def label.Table_Get_n.cx : Cx := cxOf tyL byL ptrL borL rowL false [] [] [] [] [] glL [] tyR [] []
def label.Table_Get_n.us : List (Nat × ((AE → St → Prop) → AE → St → Prop)) := []
def label.Table_Get_n.ps : List PS := [.nil, .t .str]
def label.Table_Get_n.G (x : ByteArray × Unit) (J : List AV0 → Prop) : Prop := label.Table_Get_n x.1 (fun r0 r1 => J [.tv tRef r0, .tv (.int .i64) r1])
def label.Table_Get_n.F : List AV0 → (List AV0 → Prop) → Prop := byPs label.Table_Get_n.ps label.Table_Get_n.G
theorem label.Table_Get_n.eq (x : psD label.Table_Get_n.ps) (J : List AV0 → Prop) : label.Table_Get_n.G x J = fnA label.Table_Get_n.cx label.Table_Get_n.ct Tryd.f21 (psMk label.Table_Get_n.ps x) J := by kernel_rfl
theorem label.Table_Get_n.good : Go.Iv.Good Tryd.prog 21 label.Table_Get_n.F := good_gen (us := label.Table_Get_n.us) (cxOk base rows (l := []) (scL := []) trivial trivial glOk rtOk) Tryd.func21 (by kernel_rfl) (by kernel_rfl) label.Table_Get_n.ps label.Table_Get_n.G label.Table_Get_n.eq (by kernel_rfl) (by kernel_rfl) (L := []) (M := []) (by kernel_rfl) (by kernel_rfl) trivial trivial
def disk.Disk_Flush_c1.ct : Cuts := { lp := [], jn := [], ex := [], pl := [] }
def disk.Disk_Flush_c1.cx : Cx := cxOf tyL byL ptrL borL rowL false [] [] [] [] [] glL [] tyR [] []
def disk.Disk_Flush_c1.us : List (Nat × ((AE → St → Prop) → AE → St → Prop)) := []
def disk.Disk_Flush_c1.ps : List PS := [.t (.int .i64)]
def disk.Disk_Flush_c1.G (x : Int × Unit) (J : List AV0 → Prop) : Prop := disk.Disk_Flush_c1 x.1 (fun r0 => J [.tv .bool r0])
def disk.Disk_Flush_c1.F : List AV0 → (List AV0 → Prop) → Prop := byPs disk.Disk_Flush_c1.ps disk.Disk_Flush_c1.G
theorem disk.Disk_Flush_c1.eq (x : psD disk.Disk_Flush_c1.ps) (J : List AV0 → Prop) : disk.Disk_Flush_c1.G x J = fnA disk.Disk_Flush_c1.cx disk.Disk_Flush_c1.ct Tryd.f37 (psMk disk.Disk_Flush_c1.ps x) J := by kernel_rfl
theorem disk.Disk_Flush_c1.good : Go.Iv.Good Tryd.prog 37 disk.Disk_Flush_c1.F := good_gen (us := disk.Disk_Flush_c1.us) (cxOk base rows (l := []) (scL := []) trivial trivial glOk rtOk) Tryd.func37 (by kernel_rfl) (by kernel_rfl) disk.Disk_Flush_c1.ps disk.Disk_Flush_c1.G disk.Disk_Flush_c1.eq (by kernel_rfl) (by kernel_rfl) (L := []) (M := []) (by kernel_rfl) (by kernel_rfl) trivial trivial
def disk.New.ct : Cuts := { lp := [], jn := [], ex := [], pl := [] }
def disk.New.cx : Cx := cxOf tyLH byL ptrL borL rowL false [] [] [] [] [] glL [(7, [(1, 3, 72)])] tyR [] []
def disk.New.us : List (Nat × ((AE → St → Prop) → AE → St → Prop)) := []
def disk.New.inn : Sk := ⟨[], 1, [(0, .var (.int .i64))], [], []⟩
def disk.New.out0 : Sk := ⟨[], 1, [(0, .ptr 1000 0)], [(1000, .box 74 tDiskH), (1001, .row 75 (.arr 64 (.int .u8))), (1002, .row 77 twrite)], [((1000, 0), 2003), ((1000, 1), 2005)]⟩
def disk.New.outs : Nat → Sk := fun i => lkSk i [(0, disk.New.out0)]
def disk.New.S : SFn := ⟨disk.New.inn, disk.New.outs, fun (x : Int × Unit) (J : (i : Nat) → (disk.New.outs i).D → Prop) => disk.New x.1 (fun ot1000 ot1001 ot1002 => J 0 ((ot1000, ot1001, ot1002, ()) : DiskH × (List (List Int)) × (List write) × Unit))⟩
theorem disk.New.eq (x : disk.New.inn.D) (J : (i : Nat) → (disk.New.outs i).D → Prop) : disk.New.S.F x J = fnAS disk.New.cx disk.New.ct Tryd.f22 disk.New.inn disk.New.outs x J := by kernel_rfl
theorem disk.New.good : Go.Iv.SOK Tryd.prog 22 disk.New.S := goodS_gen (us := disk.New.us) (cxOk baseH rows (l := []) (scL := []) trivial trivial glOk rtOk) Tryd.func22 (by kernel_rfl) (by kernel_rfl) (S := disk.New.S) disk.New.eq (by kernel_rfl) (by kernel_rfl) (by kernel_rfl) (L := []) (M := []) (by kernel_rfl) (by kernel_rfl) trivial trivial
end Go.Iw
