/- Plain laws: what the chart's functions come to. -/
import Derived.Test.YtggdaoceljekiaaPl
import Derived.Test.YtggdaoceljekiaaIvK
namespace Go.Iw
open Go.Iv
set_option linter.unusedVariables false
set_option linter.unusedSimpArgs false

@[simp] theorem br_true (X Y : Prop) : br true X Y = X := rfl
@[simp] theorem br_false (X Y : Prop) : br false X Y = Y := rfl

theorem wrap_small {n : Int} (h1 : -9223372036854775808 ≤ n) (h2 : n ≤ 9223372036854775807) : IntKind.wrap .i64 n = n := by
  rw [IntKind.wrap_i64]; omega
theorem wrap_small_u {n : Int} (h1 : 0 ≤ n) (h2 : n ≤ 18446744073709551615) : IntKind.wrap .u64 n = n := by
  rw [IntKind.wrap_u64]; omega
theorem wrap_small_u8 {n : Int} (h1 : 0 ≤ n) (h2 : n ≤ 255) : IntKind.wrap .u8 n = n := by
  rw [IntKind.wrap_u8]; omega

theorem ba_beq (x y : ByteArray) : (x == y) = decide (x = y) := by
  obtain ⟨x⟩ := x
  obtain ⟨y⟩ := y
  show (x == y) = _
  rw [Bool.eq_iff_iff]
  simp

theorem awake_true (K : Bool → Prop) (h : K true) : law09.awake K := by
  unfold law09.awake chart.Put chart.place slices.BinarySearchFunc_Chart_Elem_int
  refine ⟨3, ?_⟩
  have w1 : IntKind.wrap .i64 1 = 1 := rfl
  have w2 : IntKind.wrap .i64 2 = 2 := rfl
  have w3 : IntKind.wrap .i64 3 = 3 := rfl
  have u1 : IntKind.wrap .u64 1 = 1 := rfl
  have u2 : IntKind.wrap .u64 2 = 2 := rfl
  have u3 : IntKind.wrap .u64 3 = 3 := rfl
  have f2 : Int.fdiv 2 2 = 1 := rfl
  have f1 : Int.fdiv 1 2 = 0 := rfl
  have w0 : IntKind.wrap .i64 0 = 0 := rfl
  simp [slices.BinarySearchFunc_Chart_Elem_int.l3, chart.place_c1, cmp.Compare_int, cmp.isNaN_int, ix, h, w1, w2, w3, u1, u2, u3, f1, f2, w0]

end Go.Iw
