/- The program's functions do what the plain ones do. -/
import Derived.Test.YtecohedcbnfibaaDoorYSo6
namespace Go.Iw
open Go.Iv Go.Proofs
attribute [local irreducible] fnA fnAS awp
set_option maxHeartbeats 4000000
set_option maxRecDepth 100000
set_option linter.unusedVariables false
def disk.Disk_Read_w.l7xe1 : Sk := ⟨[], 47, [(6, .ptr 6 0)], [(6, .box 75 (.arr 64 (.int .u8))), (1000, .box 74 tDiskH), (10, .row 75 (.arr 64 (.int .u8))), (11, .row 77 twrite)], [((1000, 0), 21), ((1000, 1), 23)]⟩
def disk.Disk_Read_w.l7.k : Sk := ⟨[], 47, [(1, .var (.int .i64)), (6, .ptr 6 0), (33, .row 11), (34, .var (.int .i64)), (35, .var (.int .i64))], [(6, .box 75 (.arr 64 (.int .u8))), (1000, .box 74 tDiskH), (10, .row 75 (.arr 64 (.int .u8))), (11, .row 77 twrite)], [((1000, 0), 21), ((1000, 1), 23)]⟩
def disk.Disk_Read_w.l7.ex : List (AE × Sk) := [((.exit 1), disk.Disk_Read_w.l7xe1)]
def disk.Disk_Read_w.l7.X (Q : AE → St → Prop) (n : Nat) (x : Int × Int × Int × (List Int) × DiskH × (List (List Int)) × (List write) × Unit) : Prop := disk.Disk_Read_w.l7 (fun os6 ot1000 ot10 ot11 => Q (.exit 1) (disk.Disk_Read_w.l7xe1.mk' (os6, ot1000, ot10, ot11, ()))) n x.1 x.2.1 x.2.2.1 x.2.2.2.1 x.2.2.2.2.1 x.2.2.2.2.2.1 x.2.2.2.2.2.2.1
def disk.Disk_Read_w.ct : Cuts := { lp := [(7, fun st Q => disk.Disk_Read_w.l7.k.as st fun x => ∃ n, disk.Disk_Read_w.l7.X Q n x)], jn := [], ex := [], pl := [] }
def disk.Disk_Read_w.cx : Cx := cxOf tyLH byL ptrL borL rowL true [(34, disk.Disk_Sectors.F)] [] [46] [] [] glL [] tyR [(1000, [(0, 10), (1, 11)])] []
def disk.Disk_Read_w.us : List (Nat × ((AE → St → Prop) → AE → St → Prop)) := []
theorem disk.Disk_Read_w.l7.eq (Q : AE → St → Prop) (n : Nat) (x : disk.Disk_Read_w.l7.k.D) : disk.Disk_Read_w.l7.X Q (n + 1) x = awp disk.Disk_Read_w.cx disk.Disk_Read_w.ct (lpAt 7 Tryd.f15) (lpQ disk.Disk_Read_w.l7.k (disk.Disk_Read_w.l7.X Q n) disk.Disk_Read_w.l7.ex Q) (lpQ disk.Disk_Read_w.l7.k (disk.Disk_Read_w.l7.X Q n) disk.Disk_Read_w.l7.ex Q) (disk.Disk_Read_w.l7.k.mk' x) := by kernel_rfl
theorem disk.Disk_Read_w.l7.lp : LpOk disk.Disk_Read_w.cx disk.Disk_Read_w.ct (usOf disk.Disk_Read_w.ct.ex disk.Disk_Read_w.us) (lpAt 7 Tryd.f15) := lp_gen 7 (by kernel_rfl) disk.Disk_Read_w.l7.k disk.Disk_Read_w.l7.ex disk.Disk_Read_w.l7.X (by kernel_rfl) (by intro Q x; kernel_rfl) disk.Disk_Read_w.l7.eq (fun _ _ => trivial)
def disk.Disk_Read_w.inn : Sk := ⟨[], 2, [(0, .ptr 1000 0), (1, .var (.int .i64))], [(1000, .box 74 tDiskH), (10, .row 75 (.arr 64 (.int .u8))), (11, .row 77 twrite)], [((1000, 0), 21), ((1000, 1), 23)]⟩
def disk.Disk_Read_w.out0 : Sk := ⟨[], 2, [(0, .var (.sl 5 (.int .u8))), (1, .var (.int .i64))], [(10, .row 75 (.arr 64 (.int .u8))), (11, .row 77 twrite), (1000, .box 74 tDiskH)], [((1000, 0), 21), ((1000, 1), 23)]⟩
def disk.Disk_Read_w.out4096 : Sk := ⟨[], 2, [(0, .wbx 1001 0 64 5 (.int .u8)), (1, .var (.int .i64))], [(10, .row 75 (.arr 64 (.int .u8))), (11, .row 77 twrite), (1000, .box 74 tDiskH), (1001, .box 75 (.arr 64 (.int .u8)))], [((1000, 0), 21), ((1000, 1), 23)]⟩
def disk.Disk_Read_w.outs : Nat → Sk := fun i => lkSk i [(0, disk.Disk_Read_w.out0), (4096, disk.Disk_Read_w.out4096)]
def disk.Disk_Read_w.S : SFn := ⟨disk.Disk_Read_w.inn, disk.Disk_Read_w.outs, fun (x : Int × DiskH × (List (List Int)) × (List write) × Unit) (J : (i : Nat) → (disk.Disk_Read_w.outs i).D → Prop) => disk.Disk_Read_w x.1 x.2.1 x.2.2.1 x.2.2.2.1 (fun r0 r1 ot10 ot11 ot1000 => J 0 ((r0, r1, ot10, ot11, ot1000, ()) : (List Int) × Int × (List (List Int)) × (List write) × DiskH × Unit)) (fun r1 ot10 ot11 ot1000 ot1001 => J 4096 ((r1, ot10, ot11, ot1000, ot1001, ()) : Int × (List (List Int)) × (List write) × DiskH × (List Int) × Unit))⟩
theorem disk.Disk_Read_w.eq (x : disk.Disk_Read_w.inn.D) (J : (i : Nat) → (disk.Disk_Read_w.outs i).D → Prop) : disk.Disk_Read_w.S.F x J = fnAS disk.Disk_Read_w.cx disk.Disk_Read_w.ct Tryd.f15 disk.Disk_Read_w.inn disk.Disk_Read_w.outs x J := by kernel_rfl
theorem disk.Disk_Read_w.good : Go.Iv.SOK Tryd.prog 15 disk.Disk_Read_w.S := goodS_gen (us := disk.Disk_Read_w.us) (cxOk baseH rows (l := [(34, disk.Disk_Sectors.F)]) (scL := []) ⟨disk.Disk_Sectors.good, trivial⟩ trivial glOk rtOk) Tryd.func15 (by kernel_rfl) (by kernel_rfl) (S := disk.Disk_Read_w.S) disk.Disk_Read_w.eq (by kernel_rfl) (by kernel_rfl) (by kernel_rfl) (L := [lpAt 7 Tryd.f15]) (M := []) (by kernel_rfl) (by kernel_rfl) ⟨disk.Disk_Read_w.l7.lp, trivial⟩ trivial
end Go.Iw
