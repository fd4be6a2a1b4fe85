/- copy, of elements of whatever size; what the walks of slices.Insert and Delete lean on. -/
import Derived.Test.YtdlhckmdllfamaaIvJ
import Derived.Shelf.RegionOpenPlain
import Derived.WalkKit
import Derived.Deep.RegionLaw
import Derived.Lib.Walk
import Derived.Lib.SliceRun
import Derived.Lib.AppendZeros
import Derived.Lib.AppendZerosOnto
import Derived.Lib.Overlaps
import Derived.Laws.Externs
import Derived.Laws.IdiomCopy
import Derived.Laws.CopyRow
import Derived.Deep.AppendSrc
namespace Go.Iv
open Go.RowKit Go.Lib
set_option linter.unusedVariables false
set_option linter.unusedSimpArgs false

section
variable {P : Program}

/-- Cells written into a row from a place on. -/
def wr (cur : Array Value) (o : Nat) (cs : List Value) : Array Value := (cur.toList.take o ++ cs ++ cur.toList.drop (o + cs.length)).toArray
theorem wr_size {cur : Array Value} {o : Nat} {cs : List Value} (h : o + cs.length ≤ cur.size) : (wr cur o cs).size = cur.size := by
  simp [wr]; omega

theorem copy_run (w : World) (dT sT ty elem : TypeId) (size g o dLen dCap : Nat) (a : Addr) (sLen sCap n : Nat) (cur : Array Value) (t : TypeId) (cs : List Value)
    (hu : P.underlying dT = some (.slice elem)) (hs : (P.info? elem).map (·.size) = some size)
    (hg : w.heap[g]? = some (.cells cur t (0, 0))) (hm : Nat.min sLen dLen = n) (hn : cs.length = n * size)
    (hsrc : ∀ (j : Nat) (v : Value), cs[j]? = some v → w.cell? (a.add j) = some v) (hfit : o + cs.length ≤ cur.size) (h1 : ∀ v ∈ cs, v.oneCell' = true) :
    (Builtin.copy_ #[dT, sT] ty #[.slice (some ⟨g, o, none⟩) dLen dCap, .slice (some a) sLen sCap]).run P w = .ok (goInt n) (w.setRow g (wr cur o cs)) := by
  have hl := run_firstCells_some (P := P) w size n a sLen sCap cs hn hsrc
  have hst := run_storeCells_at P g o t cs 0 cur w hg (by simpa using hfit) h1
  cases hq : P.info? elem with
  | none => simp [hq] at hs
  | some i =>
    have hi : i.size = size := by simpa [hq] using hs
    simp [Builtin.copy_, run_underlying hu, Builtin.lenOf, sizeOf, typeInfo, hq, hi, hm, hl, hst, wr]

theorem wp_copy_run (w : World) {o : Oper} {a : Act} {K : Act → World → Prop} {Q : Exit → Act → World → Prop} (d s : Operand) (t t' : TypeId)
    (ho : o.op = .call { callee := .builtin .copy, args := #[d, s], argTypes := #[t, t'] }) (v u : Value) (hd : a.eval d = v) (hs : a.eval s = u) {v' : Value} {w' : World}
    (hr : (Builtin.copy_ #[t, t'] o.type #[v, u]).run P w = .ok v' w') (h : K (a.put o.dst v') w') : o.wp P a w K Q := by
  unfold Oper.wp execOp
  simp only [ho, resolve, invoke, builtin, Sem.run_bind, Sem.run_pure, Result.andThen_ok, List.map_toArray, List.map_cons, List.map_nil, hd, hs, hr]
  exact h
theorem wpList_copy_run (w : World) {ops : Array Oper} {rest : List Oper} {o : Oper} {a : Act} {Q : Exit → Act → World → Prop} (hgd : o.guard = none) (d s : Operand) (t t' : TypeId)
    (ho : o.op = .call { callee := .builtin .copy, args := #[d, s], argTypes := #[t, t'] }) (v u : Value) (hd : a.eval d = v) (hs : a.eval s = u) {v' : Value} {w' : World}
    (hr : (Builtin.copy_ #[t, t'] o.type #[v, u]).run P w = .ok v' w') (h : wpList P ops Q rest (a.put o.dst v') w') : wpList P ops Q (o :: rest) a w :=
  wpList_plain hgd fun _ hK => wp_copy_run w d s t t' ho v u hd hs hr (hK _ _ h)
theorem step_copy_run {ops : Array Oper} {o : Oper} {a : Act} {w : World} {K : Act → World → Prop} {Q : Exit → Act → World → Prop} {E : Prop}
    (hg : o.guard = none) (d x : Operand) (dT sT : TypeId) (hop : o.op = Op.call { callee := Callee.builtin Builtin.copy, args := #[d, x], argTypes := #[dT, sT] })
    (v u : Value) (hd : a.eval d = v) (hx : a.eval x = u) {v' : Value} {w' : World} (hr : (Builtin.copy_ #[dT, sT] o.type #[v, u]).run P w = .ok v' w') (hK : K (a.put o.dst v') w') :
    if Region.wanted o (yielded ops a.tmps) = true then Oper.wp P o a w K Q else E := by
  have hw : Region.wanted o (yielded ops a.tmps) = true := by simp [Region.wanted, hg]
  rw [if_pos hw]
  unfold Oper.wp
  simp [execOp, hop, resolve, invoke, builtin, hd, hx, hr, Result.andThen]
  exact hK

theorem wr_get {cur : Array Value} {o : Nat} {cs : List Value} (h : o + cs.length ≤ cur.size) (j : Nat) : (wr cur o cs).toList[j]? = if o ≤ j ∧ j < o + cs.length then cs[j - o]? else cur.toList[j]? := by
  have hl : (cur.toList.take o).length = o := by simp; omega
  simp only [wr]
  by_cases h1 : j < o
  · rw [if_neg (by omega), List.append_assoc, List.getElem?_append_left (by omega), List.getElem?_take, if_pos h1]
  · by_cases h2 : j < o + cs.length
    · rw [if_pos ⟨by omega, h2⟩, List.append_assoc, List.getElem?_append_right (by omega), hl, List.getElem?_append_left (by omega)]
    · rw [if_neg (by omega), List.getElem?_append_right (by simp; omega), List.getElem?_drop]
      congr 1
      simp; omega

theorem ins_get {inner x : List Value} {o : Nat} (h : o ≤ inner.length) (j : Nat) : (inner.take o ++ x ++ inner.drop o)[j]? = if j < o then inner[j]? else if j < o + x.length then x[j - o]? else inner[j - x.length]? := by
  have hl : (inner.take o).length = o := by simp; omega
  by_cases h1 : j < o
  · rw [if_pos h1, List.append_assoc, List.getElem?_append_left (by omega), List.getElem?_take, if_pos h1]
  · rw [if_neg h1]
    by_cases h2 : j < o + x.length
    · rw [if_pos h2, List.append_assoc, List.getElem?_append_right (by omega), hl, List.getElem?_append_left (by omega)]
    · rw [if_neg h2, List.getElem?_append_right (by simp; omega), List.getElem?_drop]
      congr 1
      simp; omega

/-- In place: the row is what it should be. -/
theorem room_cells {cur : Array Value} {inner x : List Value} {n i s : Nat} (hi : i < n) (hx : x.length = s) (hin : cur.toList.take (n * s) = inner) (hc : (n + 1) * s ≤ cur.size) :
    (wr (wr cur ((i + 1) * s) (inner.drop (i * s))) (i * s) x).toList.take ((n + 1) * s) = inner.take (i * s) ++ x ++ inner.drop (i * s) := by
  have e1 : (n + 1) * s = n * s + s := by rw [Nat.add_mul, Nat.one_mul]
  have e2 : (i + 1) * s = i * s + s := by rw [Nat.add_mul, Nat.one_mul]
  have e3 : i * s + s ≤ n * s := by rw [← e2]; exact Nat.mul_le_mul_right _ hi
  have hil : inner.length = n * s := by rw [← hin]; simp; omega
  have hdl : (inner.drop (i * s)).length = n * s - i * s := by simp [hil]
  have hw : ((i + 1) * s) + (inner.drop (i * s)).length ≤ cur.size := by omega
  apply List.ext_getElem?
  intro j
  rw [List.getElem?_take, ins_get (by omega), wr_get (by rw [wr_size hw]; omega), wr_get hw, hdl, hx]
  have hcur : ∀ k, k < n * s → cur.toList[k]? = inner[k]? := fun k hk => by rw [← hin, List.getElem?_take, if_pos hk]
  by_cases h0 : j < (n + 1) * s
  · rw [if_pos h0]
    by_cases h1 : j < i * s
    · rw [if_neg (by omega), if_neg (by omega), if_pos h1, hcur j (by omega)]
    · rw [if_neg h1]
      by_cases h2 : j < i * s + s
      · rw [if_pos ⟨by omega, h2⟩, if_pos h2]
      · rw [if_neg (by omega), if_pos ⟨by omega, by omega⟩, if_neg h2, List.getElem?_drop]
        congr 1; omega
  · rw [if_neg h0, if_neg (by omega), if_neg (by omega), List.getElem?_eq_none (by omega)]

/-- A new row: likewise. -/
theorem grow_cells {ROW : Array Value} {inner x : List Value} {n i s : Nat} (hi : i < n) (hx : x.length = s) (hil : inner.length = n * s) (hin : ROW.toList.take (i * s) = inner.take (i * s)) (hc : (n + 1) * s ≤ ROW.size) :
    (wr (wr ROW (i * s) x) ((i + 1) * s) (inner.drop (i * s))).toList.take ((n + 1) * s) = inner.take (i * s) ++ x ++ inner.drop (i * s) := by
  have e1 : (n + 1) * s = n * s + s := by rw [Nat.add_mul, Nat.one_mul]
  have e2 : (i + 1) * s = i * s + s := by rw [Nat.add_mul, Nat.one_mul]
  have e3 : i * s + s ≤ n * s := by rw [← e2]; exact Nat.mul_le_mul_right _ hi
  have hdl : (inner.drop (i * s)).length = n * s - i * s := by simp [hil]
  have hw : i * s + x.length ≤ ROW.size := by omega
  apply List.ext_getElem?
  intro j
  rw [List.getElem?_take, ins_get (by omega), wr_get (by rw [wr_size hw]; omega), wr_get hw, hdl, hx]
  have hcur : ∀ k, k < i * s → ROW.toList[k]? = inner[k]? := fun k hk => by
    have := congrArg (·[k]?) hin
    simpa [List.getElem?_take, hk] using this
  by_cases h0 : j < (n + 1) * s
  · rw [if_pos h0]
    by_cases h1 : j < i * s
    · rw [if_neg (by omega), if_neg (by omega), if_pos h1, hcur j h1]
    · rw [if_neg h1]
      by_cases h2 : j < i * s + s
      · rw [if_neg (by omega), if_pos ⟨by omega, h2⟩, if_pos h2]
      · rw [if_pos ⟨by omega, by omega⟩, if_neg h2, List.getElem?_drop]
        congr 1; omega
  · rw [if_neg h0, if_neg (by omega), if_neg (by omega), List.getElem?_eq_none (by omega)]

/-- append: the second argument's type may bear another name. -/
theorem append_types (w : World) {t t' e e' ty : TypeId} {i : TypeInfo} (ht : P.underlying t = some (.slice e)) (ht' : P.underlying t' = some (.slice e')) (hi : P.info? e = some i) (v u : Value) : (Builtin.append_ #[t, t'] ty #[v, u]).run P w = (Builtin.append_ #[t, t] ty #[v, u]).run P w := by
  cases v <;> simp [Builtin.append_, run_underlying ht, run_underlying ht', sizeOf, typeInfo, hi]

theorem clear_run (w : World) (t e ty : TypeId) (z : Value) (ht : P.underlying t = some (.slice e)) (hv : ∀ w, (zeroValue e).run P w = .ok z w) (g o n c : Nat) (cur : Array Value) (tt : TypeId) (hg : w.heap[g]? = some (.cells cur tt (0, 0))) (hn : 0 < n)
    (hfit : o + (Builtin.zeroCells z.cells n).toList.length ≤ cur.size) (h1 : ∀ u ∈ (Builtin.zeroCells z.cells n).toList, u.oneCell' = true) :
    (Builtin.clear_ #[t] ty #[.slice (some ⟨g, o, none⟩) n c]).run P w = .ok (.tuple #[]) (w.setRow g (wr cur o (Builtin.zeroCells z.cells n).toList)) := by
  have hst := run_storeCells_at P g o tt (Builtin.zeroCells z.cells n).toList 0 cur w hg (by simpa using hfit) h1
  obtain ⟨m, rfl⟩ : ∃ m, n = m + 1 := ⟨n - 1, by omega⟩
  simp only [Nat.add_zero] at hst
  simp [Builtin.clear_, run_underlying ht, hv, hst, wr]

theorem step_append_run {ops : Array Oper} {o : Oper} {a : Act} {w : World} {K : Act → World → Prop} {Q : Exit → Act → World → Prop} {E : Prop}
    (hg : o.guard = none) (d x : Operand) (dT sT : TypeId) (hop : o.op = Op.call { callee := Callee.builtin Builtin.append, args := #[d, x], argTypes := #[dT, sT] })
    (v u : Value) (hd : a.eval d = v) (hx : a.eval x = u) {v' : Value} {w' : World} (hr : (Builtin.append_ #[dT, sT] o.type #[v, u]).run P w = .ok v' w') (hK : K (a.put o.dst v') w') :
    if Region.wanted o (yielded ops a.tmps) = true then Oper.wp P o a w K Q else E := by
  have hw : Region.wanted o (yielded ops a.tmps) = true := by simp [Region.wanted, hg]
  rw [if_pos hw]
  unfold Oper.wp
  simp [execOp, hop, resolve, invoke, builtin, hd, hx, hr, Result.andThen]
  exact hK

/-- Taken out: the row is what it should be. -/
theorem del_cells {cur : Array Value} {inner zs : List Value} {n i m s : Nat} (hi : i < n) (hm : m + 1 = n) (hin : cur.toList.take (n * s) = inner) (hz : zs.length = s) (hc : n * s ≤ cur.size) :
    (wr (wr cur (i * s) (inner.drop ((i + 1) * s))) (m * s) zs).toList.take (m * s) = inner.take (i * s) ++ inner.drop ((i + 1) * s) := by
  subst hm
  have e1 : (m + 1) * s = m * s + s := by rw [Nat.add_mul, Nat.one_mul]
  have e2 : (i + 1) * s = i * s + s := by rw [Nat.add_mul, Nat.one_mul]
  have e3 : i * s ≤ m * s := Nat.mul_le_mul_right _ (by omega)
  have hil : inner.length = (m + 1) * s := by rw [← hin]; simp; omega
  have hdl : (inner.drop ((i + 1) * s)).length = (m + 1) * s - (i + 1) * s := by simp [hil]
  have hw : i * s + (inner.drop ((i + 1) * s)).length ≤ cur.size := by omega
  have hl : (inner.take (i * s)).length = i * s := by simp; omega
  apply List.ext_getElem?
  intro j
  rw [List.getElem?_take, wr_get (by rw [wr_size hw]; omega), wr_get hw, hdl, hz]
  have hcur : ∀ k, k < (m + 1) * s → cur.toList[k]? = inner[k]? := fun k hk => by rw [← hin, List.getElem?_take, if_pos hk]
  by_cases h0 : j < m * s
  · rw [if_pos h0, if_neg (by omega)]
    by_cases h1 : j < i * s
    · rw [if_neg (by omega), List.getElem?_append_left (by omega), List.getElem?_take, if_pos h1, hcur j (by omega)]
    · rw [if_pos ⟨by omega, by omega⟩, List.getElem?_append_right (by omega), hl]
  · rw [if_neg h0, List.getElem?_append_right (by omega), List.getElem?_eq_none (by omega)]
end
end Go.Iv
