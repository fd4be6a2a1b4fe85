/- The program's tables of types. -/
import Derived.Test.YtdlhckmdllfamaaIvJ
import Derived.Test.YtdlhckmdllfamaaCPl
import Derived.Test.YtdlhckmdllfamaaProg
namespace Go.Iw
open Go.Iv Go.Proofs
set_option maxHeartbeats 4000000
set_option maxRecDepth 100000
set_option linter.unusedVariables false
def tyL : List (Nat × Ty) := [(2, (.int .i64)), (3, (.int .i64)), (4, .bool), (5, (.int .u8)), (6, (.int .u8)), (9, .str), (10, .str), (11, .str), (12, (.int .u64)), (21, (.int .i32)), (22, (.sl 70 tAct)), (23, (.sl 29 tElem)), (25, (.sl 29 tElem)), (28, tElem), (29, tElem), (30, (.int .u64)), (32, (.sl 49 tEdit)), (33, (.int .i64)), (40, (.sl 3 (.int .i64))), (42, (.sl 25 (.sl 29 tElem))), (44, tVal), (45, tVal), (48, tEdit), (49, tEdit), (58, (.sl 5 (.int .u8))), (69, tAct), (70, tAct), (82, (.sl 9 .str)), (97, (.sl 4 .bool)), (119, (.int .i64)), (127, (.int .u32)), (129, (.int .u64)), (130, (.int .u64)), (145, (.int .u8)), (146, (.int .u8)), (149, (.int .i32)), (150, (.int .i32))]
def byL : List (Nat × Nat) := [(4, 1), (9, 16), (5, 1), (25, 24), (3, 8), (49, 176), (29, 112), (70, 4)]
def borL : List Nat := [0, 1, 2, 3, 4, 5, 6, 7, 8, 9, 10, 11, 12, 18, 20, 21, 22, 24, 27, 32, 33, 34, 36, 38, 40, 42, 43, 44, 45, 47, 50, 51, 52, 53, 57, 58, 59, 60, 63, 66, 67, 68, 69, 70, 71, 73, 74, 76, 77, 78, 79, 80, 81, 82, 83, 84, 85, 86, 87, 88, 89, 90, 91, 92, 93, 94, 95, 96, 97, 98, 99, 100, 101, 102, 103, 104, 105, 106, 107, 108, 109, 110, 111, 112, 113]
theorem base : Base Try.prog tyL byL := Base.of (by kernel_rfl) (by kernel_rfl)
theorem base_ty (T : Nat) (t : Ty) (h : lookTy T tyL = some t) : TyP Try.prog t T := base.ty T t h
end Go.Iw
