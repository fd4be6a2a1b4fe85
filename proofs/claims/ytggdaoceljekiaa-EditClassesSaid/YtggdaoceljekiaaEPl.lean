/- The program's functions, as plain data says them. -/
import Derived.Test.YtggdaoceljekiaaIv1
namespace Go.Iw
open Go.Iv
set_option linter.unusedVariables false
@[reducible] def noStr : ByteArray := ⟨#[]⟩
abbrev Map : Type := ((List Bool) × Unit)
def Map.z : Map := ([], ())
abbrev tMap : Ty := (.pair (.sl 4 .bool) .unit)
abbrev Val : Type := (Int × (ByteArray × Unit))
def Val.z : Val := ((0 : Int), (noStr, ()))
abbrev tVal : Ty := (.pair (.int .i64) (.pair .str .unit))
abbrev errorAddressString : Type := (ByteArray × (Int × Unit))
def errorAddressString.z : errorAddressString := (noStr, ((0 : Int), ()))
abbrev terrorAddressString : Ty := (.pair .str (.pair (.int .u64) .unit))
abbrev Act : Type := (Int × (Int × (Int × Unit)))
def Act.z : Act := ((0 : Int), ((0 : Int), ((0 : Int), ())))
abbrev tAct : Ty := (.pair (.int .u8) (.pair (.int .i64) (.pair (.int .i64) .unit)))
abbrev boundsError : Type := (Int × (Int × (Bool × (Int × Unit))))
def boundsError.z : boundsError := ((0 : Int), ((0 : Int), (false, ((0 : Int), ()))))
abbrev tboundsError : Ty := (.pair (.int .i64) (.pair (.int .i64) (.pair .bool (.pair (.int .u8) .unit))))
abbrev Elem : Type := (Int × (Int × (Int × (Int × (ByteArray × (Int × (Int × (ByteArray × (ByteArray × (ByteArray × Unit))))))))))
def Elem.z : Elem := ((0 : Int), ((0 : Int), ((0 : Int), ((0 : Int), (noStr, ((0 : Int), ((0 : Int), (noStr, (noStr, (noStr, ()))))))))))
abbrev tElem : Ty := (.pair (.int .i64) (.pair (.int .u8) (.pair (.int .i64) (.pair (.int .i64) (.pair .str (.pair (.int .i64) (.pair (.int .i64) (.pair .str (.pair .str (.pair .str .unit))))))))))
abbrev Edit : Type := (Int × (Elem × (Int × (Val × (Val × Unit)))))
def Edit.z : Edit := ((0 : Int), (Elem.z, ((0 : Int), (Val.z, (Val.z, ())))))
abbrev tEdit : Ty := (.pair (.int .u8) (.pair tElem (.pair (.int .i64) (.pair tVal (.pair tVal .unit)))))
/-- An edit that leads back. -/
def invE (x : Edit) : Edit := if x.1 = 1 then (2, x.2) else if x.1 = 2 then (1, x.2) else (x.1, x.2.1, x.2.2.1, x.2.2.2.2.1, x.2.2.2.1, ())
def edit.Invert (l : List Edit) (K : List Edit → Prop) : Prop := List.length l * 176 ≤ 70368744177664 ∧ K ((l.map invE).reverse)
def edit.Of.j33 (K0 : Int → Prop) (t8 : Bool) : Prop := (br t8 (K0 (5 : Int)) (K0 (1 : Int)))
def edit.Of (field0 : Int) (K : Int → Prop) : Prop := (br (field0 == (1 : Int)) (K (3 : Int)) (br (field0 == (2 : Int)) (K (4 : Int)) (br (field0 == (4 : Int)) (edit.Of.j33 K true) (edit.Of.j33 K (field0 == (5 : Int))))))
def law12.awake (K : Bool → Prop) : Prop := (edit.Invert [((1 : Int), (((1 : Int), ((0 : Int), ((0 : Int), ((0 : Int), (noStr, ((0 : Int), ((0 : Int), (noStr, (noStr, (noStr, ())))))))))), ((0 : Int), (((0 : Int), (noStr, ())), (((0 : Int), (noStr, ())), ())))))] (fun r_0 => (br ((((List.length r_0) : Nat) : Int) == (1 : Int)) ((((0 : Int) ≤ (0 : Int)) ∧ ((0 : Int) < (((List.length r_0) : Nat) : Int))) ∧ (((Int.toNat (0 : Int)) < (List.length r_0)) ∧ (br ((ixN Edit.z r_0 (Int.toNat (0 : Int))).1 == (2 : Int)) (edit.Of (5 : Int) (fun r_1 => (K (r_1 == (5 : Int))))) (K false)))) (K false))))
def edit.Class (x0 : Edit) (K : Int → Prop) : Prop := (br (x0.1 == (1 : Int)) (K (6 : Int)) (br (x0.1 == (2 : Int)) (K (2 : Int)) (edit.Of x0.2.2.1 K)))
def law12.EditClasses.j65 (K0 : Bool → Prop) (f1 : Int) (want5 : Int) (k6 : Int) (ox2 : Edit) : Prop := (law12.awake (fun r_0 => (br r_0 (edit.Of f1 (fun r_1 => (br (r_1 == want5) (edit.Class ox2 (fun r_2 => (K0 (r_2 == k6)))) (K0 false)))) (K0 false))))
def law12.EditClasses.j57 (K0 : Bool → Prop) (f1 : Int) (want5 : Int) (k6 : Int) (ox2 : Edit) : Prop := (br (ox2.1 == (2 : Int)) (law12.EditClasses.j65 K0 f1 want5 (2 : Int) ox2) (law12.EditClasses.j65 K0 f1 want5 k6 ox2))
def law12.EditClasses.j43 (K0 : Bool → Prop) (f1 : Int) (want5 : Int) (ox2 : Edit) : Prop := (br (ox2.1 == (1 : Int)) (law12.EditClasses.j57 K0 f1 want5 (6 : Int) (ox2.1, (ox2.2.1, (f1, ox2.2.2.2)))) (law12.EditClasses.j57 K0 f1 want5 want5 (ox2.1, (ox2.2.1, (f1, ox2.2.2.2)))))
def law12.EditClasses.j37 (K0 : Bool → Prop) (f1 : Int) (want5 : Int) (t12 : Bool) (ox2 : Edit) : Prop := (br t12 (law12.EditClasses.j43 K0 f1 (5 : Int) ox2) (law12.EditClasses.j43 K0 f1 want5 ox2))
def law12.EditClasses (x0 : Edit) (f1 : Int) (K : Bool → Prop) : Prop := (br (f1 == (1 : Int)) (law12.EditClasses.j43 K f1 (3 : Int) x0) (br (f1 == (2 : Int)) (law12.EditClasses.j43 K f1 (4 : Int) x0) (br (f1 == (4 : Int)) (law12.EditClasses.j37 K f1 (1 : Int) true x0) (law12.EditClasses.j37 K f1 (1 : Int) (f1 == (5 : Int)) x0))))
end Go.Iw
