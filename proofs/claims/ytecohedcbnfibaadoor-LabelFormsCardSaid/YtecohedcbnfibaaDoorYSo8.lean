/- The program's functions do what the plain ones do. -/
import Derived.Test.YtecohedcbnfibaaDoorYSo7
namespace Go.Iw
open Go.Iv Go.Proofs
attribute [local irreducible] fnA fnAS awp
set_option maxHeartbeats 4000000
set_option maxRecDepth 100000
set_option linter.unusedVariables false
def law08.LabelForms.l25xr : Sk := ⟨[], 141, [(10, .var .bool)], [], []⟩
def law08.LabelForms.l25xe1 : Sk := ⟨[], 141, [], [], []⟩
def law08.LabelForms.l25.k : Sk := ⟨[], 141, [(19, .row 19), (20, .var (.int .i64))], [(19, .row 34 tRef)], []⟩
def law08.LabelForms.l25.ex : List (AE × Sk) := [(.ret, law08.LabelForms.l25xr), ((.exit 1), law08.LabelForms.l25xe1)]
def law08.LabelForms.l25.X (Q : AE → St → Prop) (n : Nat) (x : Int × (List Ref) × Unit) : Prop := law08.LabelForms.l25 (fun t10 => Q .ret (law08.LabelForms.l25xr.mk' (t10, ()))) (Q (.exit 1) (law08.LabelForms.l25xe1.mk' ())) n x.1 x.2.1
def law08.LabelForms.ct : Cuts := { lp := [(25, fun st Q => law08.LabelForms.l25.k.as st fun x => ∃ n, law08.LabelForms.l25.X Q n x)], jn := [], ex := [], pl := [(27, [.any [] [(0, []), (1, []), (2, []), (3, []), (4, []), (5, []), (6, []), (7, []), (8, []), (9, []), (10, []), (11, []), (12, []), (13, []), (14, []), (15, []), (16, []), (17, []), (18, []), (19, []), (20, []), (21, []), (22, []), (23, []), (24, [])]])] }
def law08.LabelForms.cx : Cx := cxOf tyLH byL ptrL borL rowL false [(11, law08.right.F), (20, label.Table_All_n.F), (19, label.Open_n.F), (14, r01.Seal.F), (13, label.Table_Make_n.F), (9, law08.awake.F)] [14, 19] [] [(15, disk.Disk_Read_w.S), (20, label.Table_All.S), (12, law08.fresh.S), (13, label.Table_Make.S), (19, label.Open.S), (18, journal.Open.S), (17, disk.Disk_Flush.S), (16, disk.Disk_Write.S)] [(30, [(1000, 30), (1001, 22), (1002, 23), (1003, 24), (1004, 26)]), (65, [(1001, 65)]), (90, [(1001, 90)]), (97, [(1002, 97)]), (109, [(1003, 109)])] glL [] tyR [] []
def law08.LabelForms.us : List (Nat × ((AE → St → Prop) → AE → St → Prop)) := []
theorem law08.LabelForms.l25.eq (Q : AE → St → Prop) (n : Nat) (x : law08.LabelForms.l25.k.D) : law08.LabelForms.l25.X Q (n + 1) x = awp law08.LabelForms.cx law08.LabelForms.ct (lpAt 25 Tryd.f4) (lpQ law08.LabelForms.l25.k (law08.LabelForms.l25.X Q n) law08.LabelForms.l25.ex Q) (lpQ law08.LabelForms.l25.k (law08.LabelForms.l25.X Q n) law08.LabelForms.l25.ex Q) (law08.LabelForms.l25.k.mk' x) := by kernel_rfl
theorem law08.LabelForms.l25.lp : LpOk law08.LabelForms.cx law08.LabelForms.ct (usOf law08.LabelForms.ct.ex law08.LabelForms.us) (lpAt 25 Tryd.f4) := lp_gen 25 (by kernel_rfl) law08.LabelForms.l25.k law08.LabelForms.l25.ex law08.LabelForms.l25.X (by kernel_rfl) (by intro Q x; kernel_rfl) law08.LabelForms.l25.eq (fun _ _ => trivial)
def law08.LabelForms.ps : List PS := [.t (.int .u8), .t (.sl 5 (.int .u8)), .t (.int .u8), .t (.int .u8), .t (.int .u8)]
def law08.LabelForms.G (x : Int × (List Int) × Int × Int × Int × Unit) (J : List AV0 → Prop) : Prop := law08.LabelForms x.1 x.2.1 x.2.2.1 x.2.2.2.1 x.2.2.2.2.1 (fun r0 => J [.tv .bool r0])
def law08.LabelForms.F : List AV0 → (List AV0 → Prop) → Prop := byPs law08.LabelForms.ps law08.LabelForms.G
theorem law08.LabelForms.eq (x : psD law08.LabelForms.ps) (J : List AV0 → Prop) : law08.LabelForms.G x J = fnA law08.LabelForms.cx law08.LabelForms.ct Tryd.f4 (psMk law08.LabelForms.ps x) J := by kernel_rfl
theorem law08.LabelForms.good : Go.Iv.Good Tryd.prog 4 law08.LabelForms.F := good_gen (us := law08.LabelForms.us) (cxOk baseH rows (l := [(11, law08.right.F), (20, label.Table_All_n.F), (19, label.Open_n.F), (14, r01.Seal.F), (13, label.Table_Make_n.F), (9, law08.awake.F)]) (scL := [(15, disk.Disk_Read_w.S), (20, label.Table_All.S), (12, law08.fresh.S), (13, label.Table_Make.S), (19, label.Open.S), (18, journal.Open.S), (17, disk.Disk_Flush.S), (16, disk.Disk_Write.S)]) ⟨law08.right.good, label.Table_All_n.good, label.Open_n.good, r01.Seal.good, label.Table_Make_n.good, law08.awake.good, trivial⟩ ⟨disk.Disk_Read_w.good, label.Table_All.good, law08.fresh.good, label.Table_Make.good, label.Open.good, journal.Open.good, disk.Disk_Flush.good, disk.Disk_Write.good, trivial⟩ glOk rtOk) Tryd.func4 (by kernel_rfl) (by kernel_rfl) law08.LabelForms.ps law08.LabelForms.G law08.LabelForms.eq (by kernel_rfl) (by kernel_rfl) (L := [lpAt 25 Tryd.f4]) (M := []) (by kernel_rfl) (by kernel_rfl) ⟨law08.LabelForms.l25.lp, trivial⟩ trivial
end Go.Iw
