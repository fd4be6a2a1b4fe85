/- The program's tables of types. -/
import Derived.Test.YtecohedcbnfibaaDoorKvJ
import Derived.Test.YtecohedcbnfibaaDoorYPl
import Derived.Test.YtecohedcbnfibaaDoorProg
namespace Go.Iw
open Go.Iv Go.Proofs
set_option maxHeartbeats 4000000
set_option maxRecDepth 100000
set_option linter.unusedVariables false
instance : GL := ⟨[(1, lines.map fun n => .int .u32 n)]⟩
def glL : List (Nat × ((t : Ty) × List t.D)) := [(1, ⟨.int .u32, lines⟩)]
theorem repL_ints {w : World} {ok : Nat → Prop} {k : IntKind} : ∀ ns : List Int, RepL (Rep w ok (.int k)) ns (ns.map fun n => .int k n)
  | [] => rfl
  | n :: r => ⟨[.int k n], r.map fun n => .int k n, rfl, rfl, repL_ints r⟩
theorem glOk : AllC (fun p => GlbOK p.1 p.2) glL := ⟨fun _ => ⟨_, List.mem_cons_self .., fun w ok => repL_ints lines⟩, trivial⟩
def tyL : List (Nat × Ty) := [(2, (.int .i64)), (3, (.int .i64)), (4, .bool), (5, (.int .u8)), (6, (.int .u8)), (9, .str), (10, .str), (11, .str), (12, (.int .u64)), (21, (.int .i32)), (24, (.sl 5 (.int .u8))), (29, (.int .i64)), (31, (.arr 32 (.int .u8))), (32, (.arr 32 (.int .u8))), (33, tRef), (34, tRef), (45, (.sl 34 tRef)), (56, (.sl 58 tAct)), (57, tAct), (58, tAct), (68, (.int .u32)), (71, (.sl 75 (.arr 64 (.int .u8)))), (72, (.sl 77 twrite)), (73, tDisk), (74, tDisk), (75, (.arr 64 (.int .u8))), (76, twrite), (77, twrite), (82, (.sl 99 tPage)), (86, (.arr 12 tRef)), (94, (.sl 9 .str)), (98, tPage), (99, tPage), (100, (.sl 24 (.sl 5 (.int .u8)))), (106, (.int .u64)), (108, (.int .i64)), (117, (.int .u64)), (118, (.arr 2 (.sl 5 (.int .u8)))), (120, (.int .u64)), (126, (.arr 16 (.int .u32))), (136, (.int .u8)), (137, (.int .u8)), (140, (.int .i32)), (141, (.int .i32))]
def tyLH : List (Nat × Ty) := [(2, (.int .i64)), (3, (.int .i64)), (4, .bool), (5, (.int .u8)), (6, (.int .u8)), (9, .str), (10, .str), (11, .str), (12, (.int .u64)), (21, (.int .i32)), (24, (.sl 5 (.int .u8))), (29, (.int .i64)), (31, (.arr 32 (.int .u8))), (32, (.arr 32 (.int .u8))), (33, tRef), (34, tRef), (45, (.sl 34 tRef)), (56, (.sl 58 tAct)), (57, tAct), (58, tAct), (68, (.int .u32)), (71, (.sl 75 (.arr 64 (.int .u8)))), (72, (.sl 77 twrite)), (73, tDisk), (74, tDiskH), (75, (.arr 64 (.int .u8))), (76, twrite), (77, twrite), (81, tJournalH), (82, (.sl 99 tPage)), (86, (.arr 12 tRef)), (88, tTableH), (94, (.sl 9 .str)), (98, tPage), (99, tPage), (100, (.sl 24 (.sl 5 (.int .u8)))), (106, (.int .u64)), (108, (.int .i64)), (117, (.int .u64)), (118, (.arr 2 (.sl 5 (.int .u8)))), (120, (.int .u64)), (126, (.arr 16 (.int .u32))), (136, (.int .u8)), (137, (.int .u8)), (140, (.int .i32)), (141, (.int .i32))]
def tyR : List (Nat × Ty) := [(33, tRef), (34, tRef), (57, tAct), (58, tAct), (73, tDisk), (74, tDisk), (76, twrite), (77, twrite), (80, tJournal), (81, tJournal), (87, tTable), (88, tTable), (98, tPage), (99, tPage)]
def ptrL : List Nat := [15, 16, 17, 25, 26, 40, 124, 127, 139]
def byL : List (Nat × Nat) := [(24, 24), (9, 16), (99, 32), (77, 72), (75, 64), (58, 88), (34, 56), (5, 1)]
def borL : List Nat := [0, 1, 2, 3, 4, 5, 6, 7, 8, 9, 10, 11, 13, 16, 17, 21, 23, 24, 25, 26, 27, 28, 29, 30, 31, 33, 34, 35, 36, 37, 39, 40, 42, 43, 44, 45, 46, 47, 48, 49, 51, 53, 54, 55, 56, 58, 59, 60, 61, 62, 63, 64, 65, 66, 67, 68, 70, 71, 72, 73, 74, 75, 76, 77, 78, 79, 80, 81, 82, 83, 84, 85, 86, 87, 88, 89, 90, 91, 92, 93, 94, 95, 96, 97, 98]
theorem base : Base Tryd.prog tyL byL ptrL := Base.of (by kernel_rfl) (by kernel_rfl) (by kernel_rfl)
theorem baseH : Base Tryd.prog tyLH byL ptrL := Base.of (by kernel_rfl) (by kernel_rfl) (by kernel_rfl)
theorem rtOk : ∀ (T : Nat) (t : Ty), lookTy T tyR = some t → TyP Tryd.prog t T := rtB_ok (by kernel_rfl)
theorem base_ty (T : Nat) (t : Ty) (h : lookTy T tyL = some t) : TyP Tryd.prog t T := base.ty T t h
end Go.Iw
