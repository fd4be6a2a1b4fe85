/- The program's functions do what the plain ones do. -/
import Derived.Test.YtcpeakceigidpaaDoorVSo6
set_option linter.all false
namespace Go.Iw
open Go.Iv Go.Proofs
attribute [local irreducible] fnA fnAS awp
set_option maxHeartbeats 4000000
set_option maxRecDepth 100000
def FA.xr : Sk := ⟨[], 77, [(4, .var .bool)], [], []⟩
def FA.l9xr : Sk := ⟨[], 77, [(4, .var .bool)], [], []⟩
def FA.l9xe0 : Sk := ⟨[], 77, [(5, .ptr 28 0), (6, .ptr 15 0), (9, .var (.int .i64)), (10, .var (.int .i64))], [(16, .row 88 (.arr 64 (.int .u8))), (17, .row 90 twrite), (21, .row 4 .bool), (15, .box 73 tShelfH), (20, .box 99 tJournalH), (28, .box 87 tDiskH), (19, .box 117 tMapH)], [((15, 0), 42), ((15, 49), 40), ((20, 0), 58), ((28, 0), 33), ((28, 1), 35), ((19, 0), 43)]⟩
def FA.j26.k : Sk := ⟨[], 77, [(0, .var (.sl 5 (.int .u8))), (1, .var (.int .u8)), (5, .ptr 28 0), (6, .ptr 15 0), (8, .ptr 8 0), (9, .var (.int .i64)), (10, .var (.int .i64)), (11, .var (.int .i64)), (62, .var .bool)], [(16, .row 88 (.arr 64 (.int .u8))), (17, .row 90 twrite), (21, .row 4 .bool), (15, .box 73 tShelfH), (20, .box 99 tJournalH), (28, .box 87 tDiskH), (19, .box 117 tMapH), (8, .box 29 (.arr 32 (.int .u8)))], [((15, 0), 42), ((15, 49), 40), ((20, 0), 58), ((28, 0), 33), ((28, 1), 35), ((19, 0), 43)]⟩
def FA.l9.k : Sk := ⟨[], 77, [(0, .var (.sl 5 (.int .u8))), (1, .var (.int .u8)), (5, .ptr 28 0), (6, .ptr 15 0), (8, .ptr 8 0), (9, .var (.int .i64)), (10, .var (.int .i64)), (11, .var (.int .i64))], [(8, .box 29 (.arr 32 (.int .u8))), (16, .row 88 (.arr 64 (.int .u8))), (17, .row 90 twrite), (21, .row 4 .bool), (15, .box 73 tShelfH), (20, .box 99 tJournalH), (28, .box 87 tDiskH), (19, .box 117 tMapH)], [((15, 0), 42), ((15, 49), 40), ((20, 0), 58), ((28, 0), 33), ((28, 1), 35), ((19, 0), 43)]⟩
def FA.j4.k : Sk := ⟨[], 77, [(0, .var (.sl 5 (.int .u8))), (1, .var (.int .u8)), (25, .var .bool)], [], []⟩
def FA.j26.X (U : AE → St → Prop) (x : (List Int) × Int × Int × Int × Int × Bool × (List (List Int)) × (List write) × (List Bool) × ShelfH × JournalH × DiskH × MapH × (List Int) × Unit) : Prop := FA.j26 (fun t4 => U .ret (FA.l9xr.mk' (t4, ()))) (fun p0 n1 e9 acts10 i11 ok8 ot16 ot17 ot21 ot15 ot20 ot28 ot19 => U .normal (FA.l9.k.mk' (p0, n1, e9, acts10, i11, ok8, ot16, ot17, ot21, ot15, ot20, ot28, ot19, ()))) x.1 x.2.1 x.2.2.1 x.2.2.2.1 x.2.2.2.2.1 x.2.2.2.2.2.1 x.2.2.2.2.2.2.1 x.2.2.2.2.2.2.2.1 x.2.2.2.2.2.2.2.2.1 x.2.2.2.2.2.2.2.2.2.1 x.2.2.2.2.2.2.2.2.2.2.1 x.2.2.2.2.2.2.2.2.2.2.2.1 x.2.2.2.2.2.2.2.2.2.2.2.2.1 x.2.2.2.2.2.2.2.2.2.2.2.2.2.1
def FA.l9.ex : List (AE × Sk) := [(.ret, FA.l9xr), ((.exit 0), FA.l9xe0)]
def FA.l9.X (Q : AE → St → Prop) (n : Nat) (x : (List Int) × Int × Int × Int × Int × (List Int) × (List (List Int)) × (List write) × (List Bool) × ShelfH × JournalH × DiskH × MapH × Unit) : Prop := FA.l9 (fun t4 => Q .ret (FA.l9xr.mk' (t4, ()))) (fun e9 acts10 ot16 ot17 ot21 ot15 ot20 ot28 ot19 => Q (.exit 0) (FA.l9xe0.mk' (e9, acts10, ot16, ot17, ot21, ot15, ot20, ot28, ot19, ()))) n x.1 x.2.1 x.2.2.1 x.2.2.2.1 x.2.2.2.2.1 x.2.2.2.2.2.1 x.2.2.2.2.2.2.1 x.2.2.2.2.2.2.2.1 x.2.2.2.2.2.2.2.2.1 x.2.2.2.2.2.2.2.2.2.1 x.2.2.2.2.2.2.2.2.2.2.1 x.2.2.2.2.2.2.2.2.2.2.2.1 x.2.2.2.2.2.2.2.2.2.2.2.2.1
def FA.j4.X (U : AE → St → Prop) (x : (List Int) × Int × Bool × Unit) : Prop := FA.j4 (fun t4 => U .ret (FA.xr.mk' (t4, ()))) x.1 x.2.1 x.2.2.1
def FA.ct : Cuts := { lp := [(9, fun st Q => FA.l9.k.as st fun x => ∃ n, FA.l9.X Q n x)], jn := [(4, fun st U => FA.j4.k.as st (FA.j4.X U)), (26, fun st U => FA.j26.k.as st (FA.j26.X U))], ex := [(.ret, FA.xr)], pl := [] }
def FA.cx : Cx := cxOf tyLH byL ptrL borL rowL false [(23, XB.F), (24, orP VB.F PB.F), (12, OB.F), (10, KB.F)] [] [] [(11, UA.S), (12, NA.S)] [(28, [(1000, 28), (1001, 15), (1002, 16), (1003, 17), (1004, 19), (1005, 20), (1006, 21)])] glL [] tyR [] []
def FA.us : List (Nat × ((AE → St → Prop) → AE → St → Prop)) := [(9, lpV FA.l9.k FA.l9.ex)]
theorem FA.j26.eq (U : AE → St → Prop) (x : FA.j26.k.D) : FA.j26.X U x = awp FA.cx FA.ct (jnAt 26 FA.cx FA.ct Tryd.f6).code ((lpV FA.l9.k FA.l9.ex) U) ((jnAt 26 FA.cx FA.ct Tryd.f6).cont ((lpV FA.l9.k FA.l9.ex) U)) (FA.j26.k.mk' x) := by kernel_rfl
theorem FA.j26.jn : JnOk FA.cx FA.ct (usOf FA.ct.ex FA.us) (jnAt 26 FA.cx FA.ct Tryd.f6) := jn_gen (some 9) (by kernel_rfl) FA.j26.k FA.j26.X (lpV FA.l9.k FA.l9.ex) (by kernel_rfl) (fun U h => h) FA.j26.eq
theorem FA.l9.eq (Q : AE → St → Prop) (n : Nat) (x : FA.l9.k.D) : FA.l9.X Q (n + 1) x = awp FA.cx FA.ct (lpAt 9 Tryd.f6) (lpQ FA.l9.k (FA.l9.X Q n) FA.l9.ex Q) (lpQ FA.l9.k (FA.l9.X Q n) FA.l9.ex Q) (FA.l9.k.mk' x) := by kernel_rfl
theorem FA.l9.lp : LpOk FA.cx FA.ct (usOf FA.ct.ex FA.us) (lpAt 9 Tryd.f6) := lp_gen 9 (by kernel_rfl) FA.l9.k FA.l9.ex FA.l9.X (by kernel_rfl) (by intro Q x; kernel_rfl) FA.l9.eq (fun Q n => lpV_lpQ (by kernel_rfl) (by kernel_rfl))
theorem FA.j4.eq (U : AE → St → Prop) (x : FA.j4.k.D) : FA.j4.X U x = awp FA.cx FA.ct (jnAt 4 FA.cx FA.ct Tryd.f6).code ((fnV FA.ct.ex) U) ((jnAt 4 FA.cx FA.ct Tryd.f6).cont ((fnV FA.ct.ex) U)) (FA.j4.k.mk' x) := by kernel_rfl
theorem FA.j4.jn : JnOk FA.cx FA.ct (usOf FA.ct.ex FA.us) (jnAt 4 FA.cx FA.ct Tryd.f6) := jn_gen none (by kernel_rfl) FA.j4.k FA.j4.X (fnV FA.ct.ex) (by kernel_rfl) (fun U h => h) FA.j4.eq
def FA.ps : List PS := [.t (.sl 5 (.int .u8)), .t (.int .u8)]
def FA.G (x : (List Int) × Int × Unit) (J : List AV0 → Prop) : Prop := FA x.1 x.2.1 (fun r0 => J [.tv .bool r0])
def FA.F : List AV0 → (List AV0 → Prop) → Prop := byPs FA.ps FA.G
theorem FA.eq (x : psD FA.ps) (J : List AV0 → Prop) : FA.G x J = fnA FA.cx FA.ct Tryd.f6 (psMk FA.ps x) J := by kernel_rfl
theorem FA.good : Go.Iv.Good Tryd.prog 6 FA.F := good_gen (us := FA.us) (cxOk baseH rows (l := [(23, XB.F), (24, orP VB.F PB.F), (12, OB.F), (10, KB.F)]) (scL := [(11, UA.S), (12, NA.S)]) ⟨XB.good, (VB.good.orP PB.good), OB.good, KB.good, trivial⟩ ⟨UA.good, NA.good, trivial⟩ glOk rtOk) Tryd.func6 (by kernel_rfl) (by kernel_rfl) FA.ps FA.G FA.eq (by kernel_rfl) (by kernel_rfl) (L := [lpAt 9 Tryd.f6]) (M := [jnAt 4 FA.cx FA.ct Tryd.f6, jnAt 26 FA.cx FA.ct Tryd.f6]) (by kernel_rfl) (by kernel_rfl) ⟨FA.l9.lp, trivial⟩ ⟨FA.j4.jn, FA.j26.jn, trivial⟩
end Go.Iw
