/- Plain laws: what the chart's functions come to. -/
import Derived.Test.YtggdaoceljekiaaPl
import Derived.Test.YtggdaoceljekiaaIvK
namespace Go.Iw
open Go.Iv
set_option linter.unusedVariables false
set_option linter.unusedSimpArgs false

@[simp] theorem br_true (X Y : Prop) : br true X Y = X := rfl
@[simp] theorem br_false (X Y : Prop) : br false X Y = Y := rfl

theorem wrap_small {n : Int} (h1 : -9223372036854775808 ≤ n) (h2 : n ≤ 9223372036854775807) : IntKind.wrap .i64 n = n := by
  rw [IntKind.wrap_i64]; omega
theorem wrap_small_u {n : Int} (h1 : 0 ≤ n) (h2 : n ≤ 18446744073709551615) : IntKind.wrap .u64 n = n := by
  rw [IntKind.wrap_u64]; omega
theorem wrap_small_u8 {n : Int} (h1 : 0 ≤ n) (h2 : n ≤ 255) : IntKind.wrap .u8 n = n := by
  rw [IntKind.wrap_u8]; omega

theorem ba_beq (x y : ByteArray) : (x == y) = decide (x = y) := by
  obtain ⟨x⟩ := x
  obtain ⟨y⟩ := y
  show (x == y) = _
  rw [Bool.eq_iff_iff]
  simp

theorem awake_true (K : Bool → Prop) (h : K true) : law09.awake K := by
  unfold law09.awake chart.Put chart.place slices.BinarySearchFunc_Chart_Elem_int
  refine ⟨3, ?_⟩
  have w1 : IntKind.wrap .i64 1 = 1 := rfl
  have w2 : IntKind.wrap .i64 2 = 2 := rfl
  have w3 : IntKind.wrap .i64 3 = 3 := rfl
  have u1 : IntKind.wrap .u64 1 = 1 := rfl
  have u2 : IntKind.wrap .u64 2 = 2 := rfl
  have u3 : IntKind.wrap .u64 3 = 3 := rfl
  have f2 : Int.fdiv 2 2 = 1 := rfl
  have f1 : Int.fdiv 1 2 = 0 := rfl
  have w0 : IntKind.wrap .i64 0 = 0 := rfl
  simp [slices.BinarySearchFunc_Chart_Elem_int.l3, chart.place_c1, cmp.Compare_int, cmp.isNaN_int, ix, h, w1, w2, w3, u1, u2, u3, f1, f2, w0]

section
variable (K0 : Bool → Prop) (K1 : Elem → Elem → Prop) (n : Nat) (id kd pa od fr to : Int) (nm ev gu ac : ByteArray) (u : Unit)
theorem makes0 (hk1 : 0 ≤ kd) (hk2 : kd ≤ 255) (h : law09.ChartMakes.l3 K0 K1 n 1 (id, kd, pa, od, nm, fr, to, ev, gu, ac, u) (id, kd, 0, 0, noStr, 0, 0, noStr, noStr, noStr, u)) : law09.ChartMakes.l3 K0 K1 (n + 1) 0 (id, kd, pa, od, nm, fr, to, ev, gu, ac, u) (id, 0, 0, 0, noStr, 0, 0, noStr, noStr, noStr, u) := by
  have e1 : IntKind.wrap .i64 kd = kd := wrap_small (by omega) (by omega)
  have e2 : IntKind.wrap .u8 kd = kd := wrap_small_u8 hk1 hk2
  have e3 : decide (kd < 256) = true := by simp; omega
  have e4 : decide (kd ≥ 0) = true := by simp; omega
  have w : IntKind.wrap .i64 1 = 1 := rfl
  simp only [law09.ChartMakes.l3]
  simp [chart.Get, chart.Fits, chart.Fits.j8, chart.Fits.j13, chart.With, chart.With.j4, w, e1, e2, e3, e4]
  exact h
theorem makes1 (h : law09.ChartMakes.l3 K0 K1 n 2 (id, kd, pa, od, nm, fr, to, ev, gu, ac, u) (id, kd, pa, 0, noStr, 0, 0, noStr, noStr, noStr, u)) : law09.ChartMakes.l3 K0 K1 (n + 1) 1 (id, kd, pa, od, nm, fr, to, ev, gu, ac, u) (id, kd, 0, 0, noStr, 0, 0, noStr, noStr, noStr, u) := by
  have w : IntKind.wrap .i64 2 = 2 := rfl
  simp only [law09.ChartMakes.l3]
  simp [chart.Get, chart.Fits, chart.Fits.j8, chart.Fits.j13, chart.With, chart.With.j4, w]
  exact h
theorem makes2 (h : law09.ChartMakes.l3 K0 K1 n 3 (id, kd, pa, od, nm, fr, to, ev, gu, ac, u) (id, kd, pa, od, noStr, 0, 0, noStr, noStr, noStr, u)) : law09.ChartMakes.l3 K0 K1 (n + 1) 2 (id, kd, pa, od, nm, fr, to, ev, gu, ac, u) (id, kd, pa, 0, noStr, 0, 0, noStr, noStr, noStr, u) := by
  have w : IntKind.wrap .i64 3 = 3 := rfl
  simp only [law09.ChartMakes.l3]
  simp [chart.Get, chart.Fits, chart.Fits.j8, chart.Fits.j13, chart.With, chart.With.j4, w]
  exact h
theorem makes3 (h : law09.ChartMakes.l3 K0 K1 n 4 (id, kd, pa, od, nm, fr, to, ev, gu, ac, u) (id, kd, pa, od, nm, 0, 0, noStr, noStr, noStr, u)) : law09.ChartMakes.l3 K0 K1 (n + 1) 3 (id, kd, pa, od, nm, fr, to, ev, gu, ac, u) (id, kd, pa, od, noStr, 0, 0, noStr, noStr, noStr, u) := by
  have w : IntKind.wrap .i64 4 = 4 := rfl
  simp only [law09.ChartMakes.l3]
  simp [chart.Get, chart.Fits, chart.Fits.j8, chart.Fits.j13, chart.With, chart.With.j4, w]
  exact h
theorem makes4 (h : law09.ChartMakes.l3 K0 K1 n 5 (id, kd, pa, od, nm, fr, to, ev, gu, ac, u) (id, kd, pa, od, nm, fr, 0, noStr, noStr, noStr, u)) : law09.ChartMakes.l3 K0 K1 (n + 1) 4 (id, kd, pa, od, nm, fr, to, ev, gu, ac, u) (id, kd, pa, od, nm, 0, 0, noStr, noStr, noStr, u) := by
  have w : IntKind.wrap .i64 5 = 5 := rfl
  simp only [law09.ChartMakes.l3]
  simp [chart.Get, chart.Fits, chart.Fits.j8, chart.Fits.j13, chart.With, chart.With.j4, w]
  exact h
theorem makes5 (h : law09.ChartMakes.l3 K0 K1 n 6 (id, kd, pa, od, nm, fr, to, ev, gu, ac, u) (id, kd, pa, od, nm, fr, to, noStr, noStr, noStr, u)) : law09.ChartMakes.l3 K0 K1 (n + 1) 5 (id, kd, pa, od, nm, fr, to, ev, gu, ac, u) (id, kd, pa, od, nm, fr, 0, noStr, noStr, noStr, u) := by
  have w : IntKind.wrap .i64 6 = 6 := rfl
  simp only [law09.ChartMakes.l3]
  simp [chart.Get, chart.Fits, chart.Fits.j8, chart.Fits.j13, chart.With, chart.With.j4, w]
  exact h
theorem makes6 (h : law09.ChartMakes.l3 K0 K1 n 7 (id, kd, pa, od, nm, fr, to, ev, gu, ac, u) (id, kd, pa, od, nm, fr, to, ev, noStr, noStr, u)) : law09.ChartMakes.l3 K0 K1 (n + 1) 6 (id, kd, pa, od, nm, fr, to, ev, gu, ac, u) (id, kd, pa, od, nm, fr, to, noStr, noStr, noStr, u) := by
  have w : IntKind.wrap .i64 7 = 7 := rfl
  simp only [law09.ChartMakes.l3]
  simp [chart.Get, chart.Fits, chart.Fits.j8, chart.Fits.j13, chart.With, chart.With.j4, w]
  exact h
theorem makes7 (h : law09.ChartMakes.l3 K0 K1 n 8 (id, kd, pa, od, nm, fr, to, ev, gu, ac, u) (id, kd, pa, od, nm, fr, to, ev, gu, noStr, u)) : law09.ChartMakes.l3 K0 K1 (n + 1) 7 (id, kd, pa, od, nm, fr, to, ev, gu, ac, u) (id, kd, pa, od, nm, fr, to, ev, noStr, noStr, u) := by
  have w : IntKind.wrap .i64 8 = 8 := rfl
  simp only [law09.ChartMakes.l3]
  simp [chart.Get, chart.Fits, chart.Fits.j8, chart.Fits.j13, chart.With, chart.With.j4, w]
  exact h
theorem makes8 (h : law09.ChartMakes.l3 K0 K1 n 9 (id, kd, pa, od, nm, fr, to, ev, gu, ac, u) (id, kd, pa, od, nm, fr, to, ev, gu, ac, u)) : law09.ChartMakes.l3 K0 K1 (n + 1) 8 (id, kd, pa, od, nm, fr, to, ev, gu, ac, u) (id, kd, pa, od, nm, fr, to, ev, gu, noStr, u) := by
  have w : IntKind.wrap .i64 9 = 9 := rfl
  simp only [law09.ChartMakes.l3]
  simp [chart.Get, chart.Fits, chart.Fits.j8, chart.Fits.j13, chart.With, chart.With.j4, w]
  exact h
end
theorem makes (by_ : Nat → Nat) (e : Elem) (hw : Wf by_ tElem e) : law09.ChartMakes e (fun r => r = true) := by
  obtain ⟨id, kd, pa, od, nm, fr, to, ev, gu, ac, u⟩ := e
  obtain ⟨_, ⟨hk1, hk2⟩, _⟩ := hw
  refine ⟨10, ?_⟩
  refine makes0 _ _ _ id kd pa od fr to nm ev gu ac u hk1 hk2 ?_
  refine makes1 _ _ _ id kd pa od fr to nm ev gu ac u ?_
  refine makes2 _ _ _ id kd pa od fr to nm ev gu ac u ?_
  refine makes3 _ _ _ id kd pa od fr to nm ev gu ac u ?_
  refine makes4 _ _ _ id kd pa od fr to nm ev gu ac u ?_
  refine makes5 _ _ _ id kd pa od fr to nm ev gu ac u ?_
  refine makes6 _ _ _ id kd pa od fr to nm ev gu ac u ?_
  refine makes7 _ _ _ id kd pa od fr to nm ev gu ac u ?_
  refine makes8 _ _ _ id kd pa od fr to nm ev gu ac u ?_
  simp only [law09.ChartMakes.l3]
  simp
  refine awake_true _ ?_
  simp [eqT, ba_beq]
end Go.Iw
