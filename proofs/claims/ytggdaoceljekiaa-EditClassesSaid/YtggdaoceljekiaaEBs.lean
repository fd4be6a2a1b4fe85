/- The program's tables of types. -/
import Derived.Test.YtggdaoceljekiaaIvJ
import Derived.Test.YtggdaoceljekiaaEPl
import Derived.Test.YtggdaoceljekiaaProg
namespace Go.Iw
open Go.Iv Go.Proofs
set_option maxHeartbeats 4000000
set_option maxRecDepth 100000
set_option linter.unusedVariables false
def tyL : List (Nat × Ty) := [(2, (.int .i64)), (3, (.int .i64)), (4, .bool), (5, (.int .u8)), (6, (.int .u8)), (9, .str), (10, .str), (11, .str), (12, (.int .u64)), (21, (.int .i32)), (22, tElem), (23, tElem), (24, tVal), (25, tVal), (26, tEdit), (27, tEdit), (38, (.sl 5 (.int .u8))), (40, (.sl 3 (.int .i64))), (42, (.sl 45 tAct)), (43, (.sl 4 .bool)), (44, tAct), (45, tAct), (48, (.sl 23 tElem)), (49, (.sl 23 tElem)), (51, (.int .u64)), (67, (.sl 27 tEdit)), (69, tMap), (70, tMap), (77, (.sl 9 .str)), (94, (.int .u32)), (95, (.int .u8)), (96, (.int .u8)), (99, (.int .i32)), (100, (.int .i32))]
def byL : List (Nat × Nat) := [(9, 16), (27, 176), (23, 112), (4, 1), (45, 24), (3, 8), (5, 1)]
def borL : List Nat := [0, 1, 2, 3, 4, 5, 6, 7, 8, 9, 10, 11, 12, 13, 14, 15, 16, 18, 19, 20, 21, 22, 23, 24, 28, 29, 31, 34, 35, 36, 37, 38, 40, 41, 42, 47, 48, 49, 50, 51, 52, 53, 54, 55, 56, 57, 58, 59, 60, 61, 62, 63, 64, 65, 66, 67, 68, 69, 70, 71]
theorem base : Base Try.prog tyL byL := Base.of (by kernel_rfl) (by kernel_rfl)
theorem base_ty (T : Nat) (t : Ty) (h : lookTy T tyL = some t) : TyP Try.prog t T := base.ty T t h
end Go.Iw
