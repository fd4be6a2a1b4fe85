/- The program's functions do what the plain ones do. -/
import Derived.Test.YtcpeakceigidpaaDoorVSo3
set_option linter.all false
namespace Go.Iw
open Go.Iv Go.Proofs
attribute [local irreducible] fnA fnAS awp
set_option maxHeartbeats 4000000
set_option maxRecDepth 100000
def GA.l6xr : Sk := ⟨[], 57, [(4, .var (.int .i64))], [(1000, .box 99 tJournalH), (1001, .box 87 tDiskH), (9, .row 88 (.arr 64 (.int .u8))), (10, .row 90 twrite)], [((1000, 0), 2004), ((1001, 0), 19), ((1001, 1), 21)]⟩
def GA.l6xe1 : Sk := ⟨[], 57, [(0, .ptr 1000 0), (1, .var (.sl 82 tPage))], [(1000, .box 99 tJournalH), (1001, .box 87 tDiskH), (9, .row 88 (.arr 64 (.int .u8))), (10, .row 90 twrite)], [((1000, 0), 2004), ((1001, 0), 19), ((1001, 1), 21)]⟩
def GA.j18.k : Sk := ⟨[], 57, [(0, .ptr 1000 0), (1, .var (.sl 82 tPage)), (15, .var (.sl 82 tPage)), (16, .var (.int .i64)), (17, .var (.int .i64)), (36, .var .bool)], [(1000, .box 99 tJournalH), (1001, .box 87 tDiskH), (9, .row 88 (.arr 64 (.int .u8))), (10, .row 90 twrite)], [((1000, 0), 2004), ((1001, 0), 19), ((1001, 1), 21)]⟩
def GA.l6.k : Sk := ⟨[], 57, [(0, .ptr 1000 0), (1, .var (.sl 82 tPage)), (15, .var (.sl 82 tPage)), (16, .var (.int .i64)), (17, .var (.int .i64))], [(1000, .box 99 tJournalH), (1001, .box 87 tDiskH), (9, .row 88 (.arr 64 (.int .u8))), (10, .row 90 twrite)], [((1000, 0), 2004), ((1001, 0), 19), ((1001, 1), 21)]⟩
def GA.j18.X (U : AE → St → Prop) (x : (List Page) × (List Page) × Int × Int × Bool × JournalH × DiskH × (List (List Int)) × (List write) × Unit) : Prop := GA.j18 (fun t4 ot1000 ot1001 ot9 ot10 => U .ret (GA.l6xr.mk' (t4, ot1000, ot1001, ot9, ot10, ()))) (fun l1 t15 t16 t17 ot1000 ot1001 ot9 ot10 => U .normal (GA.l6.k.mk' (l1, t15, t16, t17, ot1000, ot1001, ot9, ot10, ()))) x.1 x.2.1 x.2.2.1 x.2.2.2.1 x.2.2.2.2.1 x.2.2.2.2.2.1 x.2.2.2.2.2.2.1 x.2.2.2.2.2.2.2.1 x.2.2.2.2.2.2.2.2.1
def GA.l6.ex : List (AE × Sk) := [(.ret, GA.l6xr), ((.exit 1), GA.l6xe1)]
def GA.l6.X (Q : AE → St → Prop) (n : Nat) (x : (List Page) × (List Page) × Int × Int × JournalH × DiskH × (List (List Int)) × (List write) × Unit) : Prop := GA.l6 (fun t4 ot1000 ot1001 ot9 ot10 => Q .ret (GA.l6xr.mk' (t4, ot1000, ot1001, ot9, ot10, ()))) (fun l1 ot1000 ot1001 ot9 ot10 => Q (.exit 1) (GA.l6xe1.mk' (l1, ot1000, ot1001, ot9, ot10, ()))) n x.1 x.2.1 x.2.2.1 x.2.2.2.1 x.2.2.2.2.1 x.2.2.2.2.2.1 x.2.2.2.2.2.2.1 x.2.2.2.2.2.2.2.1
def GA.ct : Cuts := { lp := [(6, fun st Q => GA.l6.k.as st fun x => ∃ n, GA.l6.X Q n x)], jn := [(18, fun st U => GA.j18.k.as st (GA.j18.X U))], ex := [], pl := [(8, [.one 0, .one 1, .one 2, .one 3, .any [] [(4, []), (5, []), (6, []), (7, []), (8, []), (9, []), (10, []), (11, []), (12, []), (13, []), (14, []), (15, [])]])] }
def GA.cx : Cx := cxOf tyLH byL ptrL borL rowL false [(47, VA.F)] [] [] [(59, IA.S), (46, MA.S)] [] glL [] tyR [(1001, [(0, 9), (1, 10)])] []
def GA.us : List (Nat × ((AE → St → Prop) → AE → St → Prop)) := [(6, lpV GA.l6.k GA.l6.ex)]
theorem GA.j18.eq (U : AE → St → Prop) (x : GA.j18.k.D) : GA.j18.X U x = awp GA.cx GA.ct (jnAt 18 GA.cx GA.ct Tryd.f34).code ((lpV GA.l6.k GA.l6.ex) U) ((jnAt 18 GA.cx GA.ct Tryd.f34).cont ((lpV GA.l6.k GA.l6.ex) U)) (GA.j18.k.mk' x) := by kernel_rfl
theorem GA.j18.jn : JnOk GA.cx GA.ct (usOf GA.ct.ex GA.us) (jnAt 18 GA.cx GA.ct Tryd.f34) := jn_gen (some 6) (by kernel_rfl) GA.j18.k GA.j18.X (lpV GA.l6.k GA.l6.ex) (by kernel_rfl) (fun U h => h) GA.j18.eq
theorem GA.l6.eq (Q : AE → St → Prop) (n : Nat) (x : GA.l6.k.D) : GA.l6.X Q (n + 1) x = awp GA.cx GA.ct (lpAt 6 Tryd.f34) (lpQ GA.l6.k (GA.l6.X Q n) GA.l6.ex Q) (lpQ GA.l6.k (GA.l6.X Q n) GA.l6.ex Q) (GA.l6.k.mk' x) := by kernel_rfl
theorem GA.l6.lp : LpOk GA.cx GA.ct (usOf GA.ct.ex GA.us) (lpAt 6 Tryd.f34) := lp_gen 6 (by kernel_rfl) GA.l6.k GA.l6.ex GA.l6.X (by kernel_rfl) (by intro Q x; kernel_rfl) GA.l6.eq (fun Q n => lpV_lpQ (by kernel_rfl) (by kernel_rfl))
def GA.inn : Sk := ⟨[], 2, [(0, .ptr 1000 0), (1, .var (.sl 82 tPage))], [(1000, .box 99 tJournalH), (1001, .box 87 tDiskH), (9, .row 88 (.arr 64 (.int .u8))), (10, .row 90 twrite)], [((1000, 0), 2004), ((1001, 0), 19), ((1001, 1), 21)]⟩
def GA.out0 : Sk := ⟨[], 1, [(0, .var (.int .i64))], [(9, .row 88 (.arr 64 (.int .u8))), (10, .row 90 twrite), (1000, .box 99 tJournalH), (1001, .box 87 tDiskH)], [((1000, 0), 2004), ((1001, 0), 19), ((1001, 1), 21)]⟩
def GA.outs : Nat → Sk := fun i => lkSk i [(0, GA.out0)]
def GA.S : SFn := ⟨GA.inn, GA.outs, fun (x : (List Page) × JournalH × DiskH × (List (List Int)) × (List write) × Unit) (J : (i : Nat) → (GA.outs i).D → Prop) => GA x.1 x.2.1 x.2.2.1 x.2.2.2.1 x.2.2.2.2.1 (fun r0 ot9 ot10 ot1000 ot1001 => J 0 ((r0, ot9, ot10, ot1000, ot1001, ()) : Int × (List (List Int)) × (List write) × JournalH × DiskH × Unit))⟩
theorem GA.eq (x : GA.inn.D) (J : (i : Nat) → (GA.outs i).D → Prop) : GA.S.F x J = fnAS GA.cx GA.ct Tryd.f34 GA.inn GA.outs x J := by kernel_rfl
theorem GA.good : Go.Iv.SOK Tryd.prog 34 GA.S := goodS_gen (us := GA.us) (cxOk baseH rows (l := [(47, VA.F)]) (scL := [(59, IA.S), (46, MA.S)]) ⟨VA.good, trivial⟩ ⟨IA.good, MA.good, trivial⟩ glOk rtOk) Tryd.func34 (by kernel_rfl) (by kernel_rfl) (S := GA.S) GA.eq (by kernel_rfl) (by kernel_rfl) (by kernel_rfl) (L := [lpAt 6 Tryd.f34]) (M := [jnAt 18 GA.cx GA.ct Tryd.f34]) (by kernel_rfl) (by kernel_rfl) ⟨GA.l6.lp, trivial⟩ ⟨GA.j18.jn, trivial⟩
def GB.ct : Cuts := { lp := [], jn := [], ex := [], pl := [(4, [.app [5] [(0, [18, 17]), (1, [18, 17]), (2, [18, 17]), (3, [18, 17]), (4, [18, 17]), (5, [18, 17]), (7, [18, 3, 17]), (8, [18, 3, 17]), (9, [18, 3, 17]), (10, [18, 3, 17])] 6, .one 11, .one 12, .one 13, .one 14])] }
def GB.cx : Cx := cxOf tyL byL ptrL borL rowL true [(61, JB.F), (62, ZA.F)] [3] [] [] [] glL [] tyR [] []
def GB.us : List (Nat × ((AE → St → Prop) → AE → St → Prop)) := []
def GB.ps : List PS := [.rp tslot]
def GB.G (x : slot × Unit) (J : List AV0 → Prop) : Prop := GB x.1 (fun r0 => J [.tv (.sl 5 (.int .u8)) r0])
def GB.F : List AV0 → (List AV0 → Prop) → Prop := byPs GB.ps GB.G
theorem GB.eq (x : psD GB.ps) (J : List AV0 → Prop) : GB.G x J = fnA GB.cx GB.ct Tryd.f36 (psMk GB.ps x) J := by kernel_rfl
theorem GB.good : Go.Iv.Good Tryd.prog 36 GB.F := good_gen (us := GB.us) (cxOk base rows (l := [(61, JB.F), (62, ZA.F)]) (scL := []) ⟨JB.good, ZA.good, trivial⟩ trivial glOk rtOk) Tryd.func36 (by kernel_rfl) (by kernel_rfl) GB.ps GB.G GB.eq (by kernel_rfl) (by kernel_rfl) (L := []) (M := []) (by kernel_rfl) (by kernel_rfl) trivial trivial
def RB.ct : Cuts := { lp := [], jn := [], ex := [], pl := [] }
def RB.cx : Cx := cxOf tyL byL ptrL borL rowL false [] [] [] [] [] glL [] tyR [] []
def RB.us : List (Nat × ((AE → St → Prop) → AE → St → Prop)) := []
def RB.ps : List PS := [.t (.int .u8)]
def RB.G (x : Int × Unit) (J : List AV0 → Prop) : Prop := RB x.1 (fun r0 => J [.tv .bool r0])
def RB.F : List AV0 → (List AV0 → Prop) → Prop := byPs RB.ps RB.G
theorem RB.eq (x : psD RB.ps) (J : List AV0 → Prop) : RB.G x J = fnA RB.cx RB.ct Tryd.f66 (psMk RB.ps x) J := by kernel_rfl
theorem RB.good : Go.Iv.Good Tryd.prog 66 RB.F := good_gen (us := RB.us) (cxOk base rows (l := []) (scL := []) trivial trivial glOk rtOk) Tryd.func66 (by kernel_rfl) (by kernel_rfl) RB.ps RB.G RB.eq (by kernel_rfl) (by kernel_rfl) (L := []) (M := []) (by kernel_rfl) (by kernel_rfl) trivial trivial
def RA.l2xr : Sk := ⟨[], 19, [(4, .var (.int .i64))], [], []⟩
def RA.l2xe0 : Sk := ⟨[], 19, [], [], []⟩
def RA.l2.k : Sk := ⟨[], 19, [(0, .var (.sl 5 (.int .u8))), (1, .fn 66), (7, .var (.int .i64)), (8, .var (.int .i64))], [], []⟩
def RA.l2.ex : List (AE × Sk) := [(.ret, RA.l2xr), ((.exit 0), RA.l2xe0)]
def RA.l2.X (Q : AE → St → Prop) (n : Nat) (x : (List Int) × Int × Int × Unit) : Prop := RA.l2 (fun t4 => Q .ret (RA.l2xr.mk' (t4, ()))) (Q (.exit 0) (RA.l2xe0.mk' ())) n x.1 x.2.1 x.2.2.1
def RA.ct : Cuts := { lp := [(2, fun st Q => RA.l2.k.as st fun x => ∃ n, RA.l2.X Q n x)], jn := [], ex := [], pl := [] }
def RA.cx : Cx := cxOf tyL byL ptrL borL rowL false [(66, RB.F)] [] [] [] [] glL [] tyR [] []
def RA.us : List (Nat × ((AE → St → Prop) → AE → St → Prop)) := []
theorem RA.l2.eq (Q : AE → St → Prop) (n : Nat) (x : RA.l2.k.D) : RA.l2.X Q (n + 1) x = awp RA.cx RA.ct (lpAt 2 Tryd.f76) (lpQ RA.l2.k (RA.l2.X Q n) RA.l2.ex Q) (lpQ RA.l2.k (RA.l2.X Q n) RA.l2.ex Q) (RA.l2.k.mk' x) := by kernel_rfl
theorem RA.l2.lp : LpOk RA.cx RA.ct (usOf RA.ct.ex RA.us) (lpAt 2 Tryd.f76) := lp_gen 2 (by kernel_rfl) RA.l2.k RA.l2.ex RA.l2.X (by kernel_rfl) (by intro Q x; kernel_rfl) RA.l2.eq (fun _ _ => trivial)
def RA.ps : List PS := [.t (.sl 5 (.int .u8)), .fn 66]
def RA.G (x : (List Int) × Unit) (J : List AV0 → Prop) : Prop := RA x.1 (fun r0 => J [.tv (.int .i64) r0])
def RA.F : List AV0 → (List AV0 → Prop) → Prop := byPs RA.ps RA.G
theorem RA.eq (x : psD RA.ps) (J : List AV0 → Prop) : RA.G x J = fnA RA.cx RA.ct Tryd.f76 (psMk RA.ps x) J := by kernel_rfl
theorem RA.good : Go.Iv.Good Tryd.prog 76 RA.F := good_gen (us := RA.us) (cxOk base rows (l := [(66, RB.F)]) (scL := []) ⟨RB.good, trivial⟩ trivial glOk rtOk) Tryd.func76 (by kernel_rfl) (by kernel_rfl) RA.ps RA.G RA.eq (by kernel_rfl) (by kernel_rfl) (L := [lpAt 2 Tryd.f76]) (M := []) (by kernel_rfl) (by kernel_rfl) ⟨RA.l2.lp, trivial⟩ trivial
def MB.ct : Cuts := { lp := [], jn := [], ex := [], pl := [] }
def MB.cx : Cx := cxOf tyL byL ptrL borL rowL false [(76, RA.F)] [] [] [] [] glL [] tyR [] []
def MB.us : List (Nat × ((AE → St → Prop) → AE → St → Prop)) := []
def MB.ps : List PS := [.t (.sl 5 (.int .u8)), .fn 66]
def MB.G (x : (List Int) × Unit) (J : List AV0 → Prop) : Prop := MB x.1 (fun r0 => J [.tv .bool r0])
def MB.F : List AV0 → (List AV0 → Prop) → Prop := byPs MB.ps MB.G
theorem MB.eq (x : psD MB.ps) (J : List AV0 → Prop) : MB.G x J = fnA MB.cx MB.ct Tryd.f65 (psMk MB.ps x) J := by kernel_rfl
theorem MB.good : Go.Iv.Good Tryd.prog 65 MB.F := good_gen (us := MB.us) (cxOk base rows (l := [(76, RA.F)]) (scL := []) ⟨RA.good, trivial⟩ trivial glOk rtOk) Tryd.func65 (by kernel_rfl) (by kernel_rfl) MB.ps MB.G MB.eq (by kernel_rfl) (by kernel_rfl) (L := []) (M := []) (by kernel_rfl) (by kernel_rfl) trivial trivial
def FB.ct : Cuts := { lp := [], jn := [], ex := [], pl := [(6, [.frz 4, .any [7] [(0, [30]), (1, [30]), (2, [30]), (3, [30]), (4, [30]), (5, [30]), (6, [30]), (7, [30]), (8, [])]]), (7, [.frz 4, .any [] [(0, []), (1, []), (2, []), (3, []), (4, []), (5, [])], .one 6]), (8, [.frz 6, .frz 1000006, .any [] [(0, []), (1, []), (2, []), (3, []), (4, []), (5, []), (6, []), (7, []), (8, []), (9, []), (10, []), (11, []), (12, []), (13, []), (14, []), (15, []), (16, []), (17, []), (18, []), (19, []), (20, []), (21, []), (22, [])]])] }
def FB.cx : Cx := cxOf tyLH byL ptrL borL rowL false [(36, GB.F), (64, FA.F), (67, LB.F), (65, MB.F)] [] [34] [] [] glL [] tyR [] []
def FB.us : List (Nat × ((AE → St → Prop) → AE → St → Prop)) := []
def FB.inn : Sk := ⟨[], 1, [(0, .var (.sl 5 (.int .u8)))], [], []⟩
def FB.out0 : Sk := ⟨[], 2, [(0, .rvar tslot), (1, .var .bool)], [], []⟩
def FB.out1 : Sk := ⟨[], 2, [(0, .nilp), (1, .var .bool)], [], []⟩
def FB.outs : Nat → Sk := fun i => lkSk i [(0, FB.out0), (1, FB.out1)]
def FB.S : SFn := ⟨FB.inn, FB.outs, fun (x : (List Int) × Unit) (J : (i : Nat) → (FB.outs i).D → Prop) => FB x.1 (fun r0 r1 => J 0 ((r0, r1, ()) : slot × Bool × Unit)) (fun r1 => J 1 ((r1, ()) : Bool × Unit))⟩
theorem FB.eq (x : FB.inn.D) (J : (i : Nat) → (FB.outs i).D → Prop) : FB.S.F x J = fnAS FB.cx FB.ct Tryd.f50 FB.inn FB.outs x J := by kernel_rfl
theorem FB.good : Go.Iv.SOK Tryd.prog 50 FB.S := goodS_gen (us := FB.us) (cxOk baseH rows (l := [(36, GB.F), (64, FA.F), (67, LB.F), (65, MB.F)]) (scL := []) ⟨GB.good, FA.good, LB.good, MB.good, trivial⟩ trivial glOk rtOk) Tryd.func50 (by kernel_rfl) (by kernel_rfl) (S := FB.S) FB.eq (by kernel_rfl) (by kernel_rfl) (by kernel_rfl) (L := []) (M := []) (by kernel_rfl) (by kernel_rfl) trivial trivial
def HB.ct : Cuts := { lp := [], jn := [], ex := [], pl := [] }
def HB.cx : Cx := cxOf tyLH byL ptrL borL rowL false [] [] [] [] [] glL [] tyR [] []
def HB.us : List (Nat × ((AE → St → Prop) → AE → St → Prop)) := []
def HB.inn : Sk := ⟨[], 1, [(0, .var (.int .i64))], [], []⟩
def HB.out0 : Sk := ⟨[], 1, [(0, .ptr 1000 0)], [(1000, .box 117 tMapH), (1001, .row 4 .bool)], [((1000, 0), 2003)]⟩
def HB.outs : Nat → Sk := fun i => lkSk i [(0, HB.out0)]
def HB.S : SFn := ⟨HB.inn, HB.outs, fun (x : Int × Unit) (J : (i : Nat) → (HB.outs i).D → Prop) => HB x.1 (fun ot1000 ot1001 => J 0 ((ot1000, ot1001, ()) : MapH × (List Bool) × Unit))⟩
theorem HB.eq (x : HB.inn.D) (J : (i : Nat) → (HB.outs i).D → Prop) : HB.S.F x J = fnAS HB.cx HB.ct Tryd.f48 HB.inn HB.outs x J := by kernel_rfl
theorem HB.good : Go.Iv.SOK Tryd.prog 48 HB.S := goodS_gen (us := HB.us) (cxOk baseH rows (l := []) (scL := []) trivial trivial glOk rtOk) Tryd.func48 (by kernel_rfl) (by kernel_rfl) (S := HB.S) HB.eq (by kernel_rfl) (by kernel_rfl) (by kernel_rfl) (L := []) (M := []) (by kernel_rfl) (by kernel_rfl) trivial trivial
def NB.ct : Cuts := { lp := [], jn := [], ex := [], pl := [] }
def NB.cx : Cx := cxOf tyL byL ptrL borL rowL false [] [] [] [] [] glL [] tyR [] []
def NB.us : List (Nat × ((AE → St → Prop) → AE → St → Prop)) := []
def NB.ps : List PS := [.rp tMap, .t (.int .i64), .t (.int .i64)]
def NB.G (x : Map × Int × Int × Unit) (J : List AV0 → Prop) : Prop := NB x.1 x.2.1 x.2.2.1 (fun r0 => J [.tv .bool r0])
def NB.F : List AV0 → (List AV0 → Prop) → Prop := byPs NB.ps NB.G
theorem NB.eq (x : psD NB.ps) (J : List AV0 → Prop) : NB.G x J = fnA NB.cx NB.ct Tryd.f75 (psMk NB.ps x) J := by kernel_rfl
theorem NB.good : Go.Iv.Good Tryd.prog 75 NB.F := good_gen (us := NB.us) (cxOk base rows (l := []) (scL := []) trivial trivial glOk rtOk) Tryd.func75 (by kernel_rfl) (by kernel_rfl) NB.ps NB.G NB.eq (by kernel_rfl) (by kernel_rfl) (L := []) (M := []) (by kernel_rfl) (by kernel_rfl) trivial trivial
def BA.xr : Sk := ⟨[], 35, [(4, .var (.int .i64))], [], []⟩
def BA.l5xr : Sk := ⟨[], 35, [(4, .var (.int .i64))], [], []⟩
def BA.l5xe0 : Sk := ⟨[], 35, [], [], []⟩
def BA.j199.k : Sk := ⟨[], 35, [(1, .var (.int .i64)), (5, .var (.int .i64)), (17, .var (.sl 4 .bool)), (18, .var (.int .i64)), (19, .var (.int .i64))], [], []⟩
def BA.j41.k : Sk := ⟨[], 35, [(1, .var (.int .i64)), (5, .var (.int .i64)), (6, .var (.int .i64)), (17, .var (.sl 4 .bool)), (18, .var (.int .i64)), (19, .var (.int .i64))], [], []⟩
def BA.l5.k : Sk := ⟨[], 35, [(1, .var (.int .i64)), (5, .var (.int .i64)), (17, .var (.sl 4 .bool)), (18, .var (.int .i64)), (19, .var (.int .i64))], [], []⟩
def BA.j6.k : Sk := ⟨[], 35, [(0, .rvar tMap), (1, .var (.int .i64)), (5, .var (.int .i64)), (13, .var .bool)], [], []⟩
def BA.j199.X (U : AE → St → Prop) (x : Int × Int × (List Bool) × Int × Int × Unit) : Prop := BA.j199 (fun n1 run5 t17 t18 t19 => U .normal (BA.l5.k.mk' (n1, run5, t17, t18, t19, ()))) x.1 x.2.1 x.2.2.1 x.2.2.2.1 x.2.2.2.2.1
def BA.j41.X (U : AE → St → Prop) (x : Int × Int × Int × (List Bool) × Int × Int × Unit) : Prop := BA.j41 (fun t4 => U .ret (BA.l5xr.mk' (t4, ()))) (fun n1 run5 t17 t18 t19 => U .normal (BA.l5.k.mk' (n1, run5, t17, t18, t19, ()))) x.1 x.2.1 x.2.2.1 x.2.2.2.1 x.2.2.2.2.1 x.2.2.2.2.2.1
def BA.l5.ex : List (AE × Sk) := [(.ret, BA.l5xr), ((.exit 0), BA.l5xe0)]
def BA.l5.X (Q : AE → St → Prop) (n : Nat) (x : Int × Int × (List Bool) × Int × Int × Unit) : Prop := BA.l5 (fun t4 => Q .ret (BA.l5xr.mk' (t4, ()))) (Q (.exit 0) (BA.l5xe0.mk' ())) n x.1 x.2.1 x.2.2.1 x.2.2.2.1 x.2.2.2.2.1
def BA.j6.X (U : AE → St → Prop) (x : Map × Int × Int × Bool × Unit) : Prop := BA.j6 (fun t4 => U .ret (BA.xr.mk' (t4, ()))) x.1 x.2.1 x.2.2.1 x.2.2.2.1
def BA.ct : Cuts := { lp := [(5, fun st Q => BA.l5.k.as st fun x => ∃ n, BA.l5.X Q n x)], jn := [(6, fun st U => BA.j6.k.as st (BA.j6.X U)), (41, fun st U => BA.j41.k.as st (BA.j41.X U)), (199, fun st U => BA.j199.k.as st (BA.j199.X U))], ex := [(.ret, BA.xr)], pl := [] }
def BA.cx : Cx := cxOf tyL byL ptrL borL rowL false [] [] [] [] [] glL [] tyR [] []
def BA.us : List (Nat × ((AE → St → Prop) → AE → St → Prop)) := [(5, lpV BA.l5.k BA.l5.ex)]
theorem BA.j199.eq (U : AE → St → Prop) (x : BA.j199.k.D) : BA.j199.X U x = awp BA.cx BA.ct (jnAt 199 BA.cx BA.ct Tryd.f32).code ((lpV BA.l5.k BA.l5.ex) U) ((jnAt 199 BA.cx BA.ct Tryd.f32).cont ((lpV BA.l5.k BA.l5.ex) U)) (BA.j199.k.mk' x) := by kernel_rfl
theorem BA.j199.jn : JnOk BA.cx BA.ct (usOf BA.ct.ex BA.us) (jnAt 199 BA.cx BA.ct Tryd.f32) := jn_gen (some 5) (by kernel_rfl) BA.j199.k BA.j199.X (lpV BA.l5.k BA.l5.ex) (by kernel_rfl) (fun U h => h) BA.j199.eq
theorem BA.j41.eq (U : AE → St → Prop) (x : BA.j41.k.D) : BA.j41.X U x = awp BA.cx BA.ct (jnAt 41 BA.cx BA.ct Tryd.f32).code ((lpV BA.l5.k BA.l5.ex) U) ((jnAt 41 BA.cx BA.ct Tryd.f32).cont ((lpV BA.l5.k BA.l5.ex) U)) (BA.j41.k.mk' x) := by kernel_rfl
theorem BA.j41.jn : JnOk BA.cx BA.ct (usOf BA.ct.ex BA.us) (jnAt 41 BA.cx BA.ct Tryd.f32) := jn_gen (some 5) (by kernel_rfl) BA.j41.k BA.j41.X (lpV BA.l5.k BA.l5.ex) (by kernel_rfl) (fun U h => h) BA.j41.eq
theorem BA.l5.eq (Q : AE → St → Prop) (n : Nat) (x : BA.l5.k.D) : BA.l5.X Q (n + 1) x = awp BA.cx BA.ct (lpAt 5 Tryd.f32) (lpQ BA.l5.k (BA.l5.X Q n) BA.l5.ex Q) (lpQ BA.l5.k (BA.l5.X Q n) BA.l5.ex Q) (BA.l5.k.mk' x) := by kernel_rfl
theorem BA.l5.lp : LpOk BA.cx BA.ct (usOf BA.ct.ex BA.us) (lpAt 5 Tryd.f32) := lp_gen 5 (by kernel_rfl) BA.l5.k BA.l5.ex BA.l5.X (by kernel_rfl) (by intro Q x; kernel_rfl) BA.l5.eq (fun Q n => lpV_lpQ (by kernel_rfl) (by kernel_rfl))
theorem BA.j6.eq (U : AE → St → Prop) (x : BA.j6.k.D) : BA.j6.X U x = awp BA.cx BA.ct (jnAt 6 BA.cx BA.ct Tryd.f32).code ((fnV BA.ct.ex) U) ((jnAt 6 BA.cx BA.ct Tryd.f32).cont ((fnV BA.ct.ex) U)) (BA.j6.k.mk' x) := by kernel_rfl
theorem BA.j6.jn : JnOk BA.cx BA.ct (usOf BA.ct.ex BA.us) (jnAt 6 BA.cx BA.ct Tryd.f32) := jn_gen none (by kernel_rfl) BA.j6.k BA.j6.X (fnV BA.ct.ex) (by kernel_rfl) (fun U h => h) BA.j6.eq
def BA.ps : List PS := [.rp tMap, .t (.int .i64)]
def BA.G (x : Map × Int × Unit) (J : List AV0 → Prop) : Prop := BA x.1 x.2.1 (fun r0 => J [.tv (.int .i64) r0])
def BA.F : List AV0 → (List AV0 → Prop) → Prop := byPs BA.ps BA.G
theorem BA.eq (x : psD BA.ps) (J : List AV0 → Prop) : BA.G x J = fnA BA.cx BA.ct Tryd.f32 (psMk BA.ps x) J := by kernel_rfl
theorem BA.good : Go.Iv.Good Tryd.prog 32 BA.F := good_gen (us := BA.us) (cxOk base rows (l := []) (scL := []) trivial trivial glOk rtOk) Tryd.func32 (by kernel_rfl) (by kernel_rfl) BA.ps BA.G BA.eq (by kernel_rfl) (by kernel_rfl) (L := [lpAt 5 Tryd.f32]) (M := [jnAt 6 BA.cx BA.ct Tryd.f32, jnAt 41 BA.cx BA.ct Tryd.f32, jnAt 199 BA.cx BA.ct Tryd.f32]) (by kernel_rfl) (by kernel_rfl) ⟨BA.l5.lp, trivial⟩ ⟨BA.j6.jn, BA.j41.jn, BA.j199.jn, trivial⟩
end Go.Iw
