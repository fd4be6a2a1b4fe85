/- The program's tables of types. -/
import Derived.Test.YtdniiaomhojlhaaIvJ
import Derived.Test.YtdniiaomhojlhaaDPl
import Derived.Test.YtdniiaomhojlhaaProg
namespace Go.Iw
open Go.Iv Go.Proofs
set_option maxHeartbeats 4000000
set_option maxRecDepth 100000
set_option linter.unusedVariables false
def tyL : List (Nat × Ty) := [(2, (.int .i64)), (3, (.int .i64)), (4, .bool), (5, (.int .u8)), (6, (.int .u8)), (9, .str), (10, .str), (11, .str), (12, (.int .u64)), (21, (.int .i32)), (22, (.sl 27 tElem)), (24, (.sl 27 tElem)), (26, tElem), (27, tElem), (28, tVal), (29, tVal), (35, (.sl 78 tAct)), (41, (.sl 70 tConflict)), (42, (.int .i64)), (50, (.sl 24 (.sl 27 tElem))), (51, (.int .u64)), (57, (.pair (.int .i64) tFault)), (58, (.pair (.int .i64) tFault)), (61, (.pair tElem (.pair tElem (.pair tElem .unit)))), (62, (.pair tElem (.pair tElem (.pair tElem .unit)))), (65, (.pair .str (.pair .str (.pair .str .unit)))), (66, (.pair .str (.pair .str (.pair .str .unit)))), (69, tConflict), (70, tConflict), (75, (.sl 3 (.int .i64))), (76, (.sl 9 .str)), (77, tAct), (78, tAct), (81, (.sl 5 (.int .u8))), (87, tside), (88, tside), (89, (.pair tside (.pair tside (.pair tside .unit)))), (90, (.pair tside (.pair tside (.pair tside .unit)))), (93, tFault), (94, tFault), (108, (.pair tVal (.pair tVal (.pair tVal .unit)))), (109, (.pair tVal (.pair tVal (.pair tVal .unit)))), (126, (.int .i64)), (134, (.int .u32)), (136, (.int .u64)), (137, (.int .u64)), (152, (.int .u8)), (153, (.int .u8)), (156, (.int .i32)), (157, (.int .i32))]
def byL : List (Nat × Nat) := [(5, 1), (9, 16), (3, 8), (24, 24), (70, 24), (78, 4), (27, 112)]
def borL : List Nat := [0, 1, 2, 3, 4, 5, 6, 7, 8, 9, 10, 11, 12, 13, 15, 16, 17, 20, 22, 25, 26, 28, 29, 30, 31, 32, 33, 34, 35, 36, 37, 40, 41, 42, 43, 45, 46, 47, 48, 49, 52, 54, 55, 56, 57, 58, 59, 60, 61, 62, 63, 64, 65, 66, 67, 68, 69, 71, 72, 74, 76, 77, 78, 79, 80, 81, 82, 83, 84, 85, 86, 87, 88, 89, 90, 91, 92, 93, 94, 95, 96, 97, 98, 99, 100, 101, 102, 103, 104, 105, 106, 107, 108, 109, 110, 111]
theorem base : Base Try.prog tyL byL := Base.of (by kernel_rfl) (by kernel_rfl)
theorem base_ty (T : Nat) (t : Ty) (h : lookTy T tyL = some t) : TyP Try.prog t T := base.ty T t h
end Go.Iw
