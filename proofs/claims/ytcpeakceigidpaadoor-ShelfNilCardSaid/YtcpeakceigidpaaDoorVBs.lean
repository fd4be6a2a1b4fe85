/- The program's tables of types. -/
import Derived.Test.YtcpeakceigidpaaDoorKvJ
import Derived.Test.YtcpeakceigidpaaDoorVPl
import Derived.Test.YtcpeakceigidpaaDoorProg
set_option linter.all false
namespace Go.Iw
open Go.Iv Go.Proofs
set_option maxHeartbeats 4000000
set_option maxRecDepth 100000
instance : GL := ⟨[(0, first.map fun n => .int .u32 n), (1, parts.map fun n => .int .u32 n), (2, lines.map fun n => .int .u32 n)]⟩
def glL : List (Nat × ((t : Ty) × List t.D)) := [(0, ⟨.int .u32, first⟩), (1, ⟨.int .u32, parts⟩), (2, ⟨.int .u32, lines⟩)]
theorem repL_ints {w : World} {ok : Nat → Prop} {k : IntKind} : ∀ ns : List Int, RepL (Rep w ok (.int k)) ns (ns.map fun n => .int k n)
 | [] => rfl
 | n :: r => ⟨[.int k n], r.map fun n => .int k n, rfl, rfl, repL_ints r⟩
theorem glOk : AllC (fun p => GlbOK p.1 p.2) glL := ⟨fun _ => ⟨_, List.mem_cons_self .., fun w ok => repL_ints first⟩, fun _ => ⟨_, List.mem_cons_of_mem _ (List.mem_cons_self ..), fun w ok => repL_ints parts⟩, fun _ => ⟨_, List.mem_cons_of_mem _ (List.mem_cons_of_mem _ (List.mem_cons_self ..)), fun w ok => repL_ints lines⟩, trivial⟩
def tyL : List (Nat × Ty) := [(2, (.int .i64)), (3, (.int .i64)), (4, .bool), (5, (.int .u8)), (6, (.int .u8)), (9, .str), (10, .str), (11, .str), (12, (.int .u64)), (21, (.int .i32)), (22, (.sl 5 (.int .u8))), (28, (.arr 32 (.int .u8))), (29, (.arr 32 (.int .u8))), (30, (.int .i64)), (34, (.int .u32)), (51, (.sl 29 (.arr 32 (.int .u8)))), (56, (.sl 22 (.sl 5 (.int .u8)))), (75, tslot), (76, tslot), (78, (.sl 82 tPage)), (81, tPage), (82, tPage), (84, (.sl 88 (.arr 64 (.int .u8)))), (85, (.sl 90 twrite)), (86, tDisk), (87, tDisk), (88, (.arr 64 (.int .u8))), (89, twrite), (90, twrite), (92, (.sl 34 (.int .u32))), (93, (.int .u64)), (95, (.int .u64)), (111, (.arr 8 (.int .u32))), (115, (.sl 4 .bool)), (116, tMap), (117, tMap), (132, (.arr 64 (.int .u32))), (133, (.arr 2 (.sl 5 (.int .u8)))), (136, (.int .i64)), (145, (.arr 16 (.int .u32))), (146, (.int .u64)), (160, (.int .u8)), (161, (.int .u8)), (164, (.int .i32)), (165, (.int .i32))]
def tyLH : List (Nat × Ty) := [(2, (.int .i64)), (3, (.int .i64)), (4, .bool), (5, (.int .u8)), (6, (.int .u8)), (9, .str), (10, .str), (11, .str), (12, (.int .u64)), (21, (.int .i32)), (22, (.sl 5 (.int .u8))), (28, (.arr 32 (.int .u8))), (29, (.arr 32 (.int .u8))), (30, (.int .i64)), (34, (.int .u32)), (51, (.sl 29 (.arr 32 (.int .u8)))), (56, (.sl 22 (.sl 5 (.int .u8)))), (68, (.sl 69 (.op tslot))), (70, (.arr 48 (.op tslot))), (73, tShelfH), (75, tslot), (76, tslot), (78, (.sl 82 tPage)), (81, tPage), (82, tPage), (84, (.sl 88 (.arr 64 (.int .u8)))), (85, (.sl 90 twrite)), (86, tDisk), (87, tDiskH), (88, (.arr 64 (.int .u8))), (89, twrite), (90, twrite), (92, (.sl 34 (.int .u32))), (93, (.int .u64)), (95, (.int .u64)), (99, tJournalH), (111, (.arr 8 (.int .u32))), (115, (.sl 4 .bool)), (116, tMap), (117, tMapH), (132, (.arr 64 (.int .u32))), (133, (.arr 2 (.sl 5 (.int .u8)))), (136, (.int .i64)), (145, (.arr 16 (.int .u32))), (146, (.int .u64)), (160, (.int .u8)), (161, (.int .u8)), (164, (.int .i32)), (165, (.int .i32))]
def tyR : List (Nat × Ty) := [(72, tShelf), (73, tShelf), (75, tslot), (76, tslot), (81, tPage), (82, tPage), (86, tDisk), (87, tDisk), (89, twrite), (90, twrite), (98, tJournal), (99, tJournal), (116, tMap), (117, tMap)]
def ptrL : List Nat := [15, 16, 17, 24, 25, 44, 69, 71, 150, 152, 163]
def byL : List (Nat × Nat) := [(4, 1), (34, 4), (90, 72), (88, 64), (82, 32), (22, 24), (29, 32), (5, 1), (69, 8)]
def borL : List Nat := [0, 1, 2, 3, 4, 5, 6, 7, 8, 9, 10, 12, 16, 17, 18, 19, 22, 24, 25, 27, 29, 30, 31, 32, 33, 34, 37, 38, 39, 40, 41, 42, 43, 44, 46, 47, 52, 53, 54, 55, 56, 57, 58, 59, 63, 64, 65, 66, 68, 69, 70, 71, 72, 73, 74, 75, 76, 77, 78, 79, 80, 81, 82, 83, 84, 85, 86, 87, 88, 89, 90, 91, 92, 93, 94, 95, 96, 97, 98, 99, 100, 101, 102, 103, 104, 105, 106, 107, 108, 109, 110, 111, 112, 113, 114, 115, 116, 23]
theorem base : Base Tryd.prog tyL byL ptrL := Base.of (by kernel_rfl) (by kernel_rfl) (by kernel_rfl)
theorem baseH : Base Tryd.prog tyLH byL ptrL := Base.of (by kernel_rfl) (by kernel_rfl) (by kernel_rfl)
theorem rtOk : ∀ (T : Nat) (t : Ty), lookTy T tyR = some t → TyP Tryd.prog t T := rtB_ok (by kernel_rfl)
theorem base_ty (T : Nat) (t : Ty) (h : lookTy T tyL = some t) : TyP Tryd.prog t T := base.ty T t h
end Go.Iw
