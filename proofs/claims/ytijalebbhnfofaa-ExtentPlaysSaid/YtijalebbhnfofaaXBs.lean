/- The program's tables of types. -/
import Derived.Test.YtijalebbhnfofaaJvJ
import Derived.Test.YtijalebbhnfofaaXPl
import Derived.Test.YtijalebbhnfofaaProg
namespace Go.Iw
open Go.Iv Go.Proofs
set_option maxHeartbeats 4000000
set_option maxRecDepth 100000
set_option linter.unusedVariables false
def tyL : List (Nat × Ty) := [(2, (.int .i64)), (3, (.int .i64)), (4, .bool), (5, (.int .u8)), (6, (.int .u8)), (9, .str), (10, .str), (11, .str), (12, (.int .u64)), (21, (.int .i32)), (29, (.sl 5 (.int .u8))), (31, (.sl 3 (.int .i64))), (33, (.sl 36 tAct)), (34, (.sl 4 .bool)), (35, tAct), (36, tAct), (39, tMap), (40, tMap), (48, (.int .u32)), (49, (.int .u8)), (50, (.int .u8)), (53, (.int .i32)), (54, (.int .i32))]
def tyLH : List (Nat × Ty) := [(2, (.int .i64)), (3, (.int .i64)), (4, .bool), (5, (.int .u8)), (6, (.int .u8)), (9, .str), (10, .str), (11, .str), (12, (.int .u64)), (21, (.int .i32)), (29, (.sl 5 (.int .u8))), (31, (.sl 3 (.int .i64))), (33, (.sl 36 tAct)), (34, (.sl 4 .bool)), (35, tAct), (36, tAct), (39, tMap), (40, tMapH), (48, (.int .u32)), (49, (.int .u8)), (50, (.int .u8)), (53, (.int .i32)), (54, (.int .i32))]
def ptrL : List Nat := [15, 16, 17, 23, 52]
def byL : List (Nat × Nat) := [(4, 1), (36, 24), (3, 8), (5, 1)]
def borL : List Nat := [0, 1, 2, 3, 4, 5, 6, 7, 8, 10, 11, 12, 13, 14, 15, 16, 17, 18, 19, 20, 21, 22, 23, 24, 25, 26, 27, 28, 29, 30, 31, 32, 33]
theorem base : Base Try.prog tyL byL ptrL := Base.of (by kernel_rfl) (by kernel_rfl) (by kernel_rfl)
theorem baseH : Base Try.prog tyLH byL ptrL := Base.of (by kernel_rfl) (by kernel_rfl) (by kernel_rfl)
def rowL : List (Nat × RowF × Nat) := []
theorem rows : AllC (fun p => RowOK Try.prog p.1 p.2.1 p.2.2) rowL := trivial
theorem base_ty (T : Nat) (t : Ty) (h : lookTy T tyL = some t) : TyP Try.prog t T := base.ty T t h
end Go.Iw
