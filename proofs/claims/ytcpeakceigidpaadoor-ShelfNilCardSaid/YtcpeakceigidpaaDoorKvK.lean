/- What comes into a law: read as plain data. -/
import Derived.Test.YtcpeakceigidpaaDoorKvJ
import Derived.WalkKit
import Derived.ProofKit
import Derived.OpenShut
import Derived.ShutString
import Derived.ChangeOld
import Derived.SizedLaws
import Derived.Deep.Slices
import Derived.Carry
set_option linter.all false
namespace Go.Iv
open Go.ChangeShapes Go.WideShapes Go.Deep Go.RowKit
variable [GL]
def Wf (by_ : TypeId → Nat) : (t : Ty) → t.D → Prop
 | .int k, n => k.min ≤ n ∧ n ≤ k.max
 | .bool, _ => True
 | .str, (s : ByteArray) => s.size ≤ reachBytes
 | .unit, _ => True
 | .pair a b, x => Wf by_ a x.1 ∧ Wf by_ b x.2
 | .arr n t, xs => List.length xs = n ∧ ∀ x ∈ xs, Wf by_ t x
 | .sl e t, xs => (∀ x ∈ xs, Wf by_ t x) ∧ List.length xs * by_ e ≤ reachBytes ∧ List.length xs ≤ maxLen
 | .hole _, _ => True
 | .pt t, x => Wf by_ t x
 | .op _, none => True
 | .op t, some x => Wf by_ t x
def Ty.okSl : Ty → Bool
 | .int _ | .bool | .str | .unit => true
 | .pair a b => a.okSl && b.okSl
 | .arr _ t => t.okSl
 | .sl _ t => t.okSl && !(Nat.beq t.size 0)
 | .hole _ => false
 | .pt _ => false
 | .op _ => false
section
variable {H : Type} {enc : TypeId × Value → H} {P : Program} {w : World}
theorem cellsOf_inf {T : TypeId} {t : Ty} (h : Inf P T t) : P.cellsOf T = t.size := by
 obtain ⟨i, z, hi, hs, _⟩ := h.out
 simp [Program.cellsOf, hi, hs]
theorem weights_each {Q : Nat → Prop} : ∀ {fs : List Field} {xs : List (DataW H × List MemPlace)}, (∀ n ∈ DataW.weightsEach P (fs.map (·.type)) (xs.map (·.1)), Q n) → fs.length = xs.length → ∀ (i : Nat) (f : Field) (y : DataW H × List MemPlace), fs[i]? = some f → xs[i]? = some y → ∀ n ∈ y.1.weights P f.type, Q n
 | [], _, _, _, _, _, _, hf, _ => by simp at hf
 | f0 :: fs, [], _, hl, _, _, _, _, _ => by simp at hl
 | f0 :: fs, y0 :: ys, h, hl, 0, f, y, hf, hy => by
  simp at hf hy
  subst hf hy
  intro n hn
  exact h n (by simp [DataW.weightsEach, hn])
 | f0 :: fs, y0 :: ys, h, hl, i + 1, f, y, hf, hy => by
  refine weights_each (fs := fs) (xs := ys) (fun n hn => h n ?_) (by simpa using hl) i f y (by simpa using hf) (by simpa using hy)
  simp only [List.map_cons, DataW.weightsEach, List.mem_append]
  exact .inr hn
theorem weights_all {Q : Nat → Prop} {e : TypeId} : ∀ {ds : List (DataW H)}, (∀ n ∈ DataW.weightsAll P e ds, Q n) → ∀ d ∈ ds, ∀ n ∈ d.weights P e, Q n
 | [], _, _, hd => by simp at hd
 | d0 :: ds, h, d, hd => by
  intro n hn
  rcases List.mem_cons.1 hd with rfl | hd
  · exact h n (by simp only [DataW.weightsAll, List.mem_append]; exact .inl hn)
  · exact weights_all (ds := ds) (fun n hn => h n (by simp only [DataW.weightsAll, List.mem_append]; exact .inr hn)) d hd n hn
theorem RepL.of_range {α : Type} {R : α → List Value → Prop} {X : Nat → α} {C : Nat → List Value} : ∀ (n k : Nat), (∀ i, i < n → R (X (k + i)) (C (k + i))) → RepL R ((List.range' k n).map X) ((List.range' k n).flatMap C)
 | 0, _, _ => rfl
 | n + 1, k, h => by
  rw [List.range'_succ]
  refine ⟨C k, (List.range' (k + 1) n).flatMap C, by simp, by simpa using h 0 (by omega), RepL.of_range n (k + 1) (fun i hi => ?_)⟩
  have := h (i + 1) (by omega)
  rwa [show k + (i + 1) = k + 1 + i by omega] at this
theorem range_cells {w : World} {a : Addr} {s : Nat} {C : Nat → List Value} : ∀ (n k : Nat), (∀ i, i < n → (C (k + i)).length = s ∧ ∀ j, j < s → w.cell? (a.add ((k + i) * s + j)) = (C (k + i))[j]?) →
 ∀ (j : Nat) (u : Value), ((List.range' k n).flatMap C)[j]? = some u → w.cell? (a.add (k * s + j)) = some u
 | 0, _, _, j, u, h => by simp at h
 | n + 1, k, hc, j, u, h => by
  rw [List.range'_succ, List.flatMap_cons] at h
  have h0 := hc 0 (by omega)
  simp only [Nat.add_zero] at h0
  by_cases hj : j < s
  · rw [List.getElem?_append_left (by omega)] at h
    rw [h0.2 j hj, h]
  · rw [List.getElem?_append_right (by omega), h0.1] at h
    have := range_cells (w := w) (a := a) (s := s) (C := C) n (k + 1) (fun i hi => by
     have := hc (i + 1) (by omega)
     rwa [show k + (i + 1) = k + 1 + i by omega] at this) (j - s) u h
    rwa [show (k + 1) * s + (j - s) = k * s + j by rw [Nat.add_mul]; omega] at this
theorem range_pieces {α : Type} (cs : List α) (s : Nat) : ∀ (n k : Nat), (List.range' k n).flatMap (fun i => (cs.drop (i * s)).take s) = (cs.drop (k * s)).take (n * s)
 | 0, k => by simp
 | n + 1, k => by
  rw [List.range'_succ, List.flatMap_cons, range_pieces cs s n (k + 1), show (n + 1) * s = s + n * s by rw [Nat.add_mul]; omega, show (k + 1) * s = k * s + s by rw [Nat.add_mul]; omega, List.take_add, List.drop_drop]
theorem trod_rep (by_ : TypeId → Nat) (hby : ∀ T e t, TyP P (.sl e t) T → P.bytesOf e = by_ e) : ∀ t : Ty, t.okSl = true →
 (∀ T, (TyPF P t).1 T → ∀ (fuel : Nat) (cs : List Value) (d : DataW H) (ps : List MemPlace), DataW.trod enc P w 0 (fun _ => true) true fuel T cs = some (d, ps) → (∀ n ∈ d.weights P T, n ≤ reachBytes) →
  ∃ x, Rep w (fun b => b < w.heap.size) t x cs ∧ Wf by_ t x) ∧
 (∀ fs off, (TyPF P t).2 fs off → ∀ (n : Nat) (cs : List Value), cs.length = off + t.size → (∀ f ∈ fs, ∃ (d : DataW H) (p : List MemPlace), DataW.trod enc P w 0 (fun _ => true) true n f.type ((cs.drop f.offset).take (P.cellsOf f.type)) = some (d, p) ∧ ∀ k ∈ d.weights P f.type, k ≤ reachBytes) →
  ∃ x, Rep w (fun b => b < w.heap.size) t x (cs.drop off) ∧ Wf by_ t x)
 | .int k, _ => ⟨fun T hT fuel cs d ps h hw => by
  obtain ⟨n, rfl, _, hwf⟩ := DataW.trod_int hT.1 h
  refine ⟨n, rfl, ?_⟩
  simpa [Lit.wf, Wf] using hwf, fun fs off h => h.elim⟩
 | .bool, _ => ⟨fun T hT fuel cs d ps h hw => by
  obtain ⟨n, rfl, _⟩ := DataW.trod_bool hT.1 h
  exact ⟨n, rfl, trivial⟩, fun fs off h => h.elim⟩
 | .str, _ => ⟨fun T hT fuel cs d ps h hw => by
  obtain ⟨s, rfl, hx, _⟩ := DataW.trod_string hT.1 h
  refine ⟨s, rfl, ?_⟩
  cases hx
  have := hw s.data.toList.length (by simp [DataW.weights])
  rwa [Array.length_toList] at this, fun fs off h => h.elim⟩
 | .unit, _ => ⟨fun T hT fuel cs d ps h hw => by
  obtain ⟨⟨fs, hfs, he, _⟩, hi⟩ := hT
  obtain ⟨xs, n, _, _, hl, _⟩ := DataW.trod_struct hfs h
  rw [cellsOf_inf hi] at hl
  have : cs = [] := List.eq_nil_of_length_eq_zero hl
  subst this
  exact ⟨(), rfl, trivial⟩, fun fs off h n cs hl _ => ⟨(), by
   have : cs.drop off = [] := List.drop_eq_nil_of_le (by simp [Ty.size] at hl; omega)
   rw [this]; rfl, trivial⟩⟩
 | .arr n t, hok => ⟨fun T hT fuel cs d ps h hw => by
  obtain ⟨⟨e, he, hte⟩, hinf⟩ := hT
  have ih := trod_rep by_ hby t hok
  obtain ⟨xs, m, rfl, hx, hlen, hn, hel⟩ := DataW.trod_array he h
  rw [cellsOf_inf hinf] at hlen
  have hlen' : cs.length = n * t.size := hlen
  have hc := cellsOf_inf (TyP.inf (t := t) hte)
  rw [hc] at hel
  cases hx
  have hws : ∀ y ∈ xs.map (·.1), ∀ k ∈ y.weights P e, k ≤ reachBytes :=
   weights_all (Q := fun n => n ≤ reachBytes) (fun k hk => hw k (by simp only [DataW.weights, he]; exact hk))
  have hex : ∀ i, i < n → ∃ p : t.D, Rep w (fun b => b < w.heap.size) t p ((cs.drop (i * t.size)).take t.size) ∧ Wf by_ t p := by
   intro i hi
   have h0 := hel i hi
   have hlt : i < xs.length := by omega
   rw [List.getElem?_eq_getElem hlt] at h0
   exact ih.1 e hte m _ xs[i].1 xs[i].2 h0 (hws _ (List.mem_map.2 ⟨xs[i], List.getElem_mem _, rfl⟩))
  have inh : Inhabited t.D := ⟨t.zero⟩
  obtain ⟨X, hX⟩ := choose_lt hex
  refine ⟨(List.range' 0 n).map X, ⟨by simp, ?_⟩, by simp, ?_⟩
  · have := RepL.of_range (R := Rep w (fun b => b < w.heap.size) t) (X := X) (C := fun i => (cs.drop (i * t.size)).take t.size) n 0 (fun i hi => by simpa using (hX i hi).1)
    rw [range_pieces] at this
    have e2 : (cs.drop (0 * t.size)).take (n * t.size) = cs := by rw [Nat.zero_mul, List.drop_zero, ← hlen', List.take_length]
    rwa [e2] at this
  · intro x hx
    obtain ⟨i, hi, rfl⟩ := List.mem_map.1 hx
    exact (hX i (by simpa using hi)).2, fun fs off h => h.elim⟩
 | .hole _, h => by simp [Ty.okSl] at h
 | .pt _, h => by simp [Ty.okSl] at h
 | .op _, h => by simp [Ty.okSl] at h
 | .pair a b, hok => by
  simp only [Ty.okSl, Bool.and_eq_true] at hok
  have iha := trod_rep by_ hby a hok.1
  have ihb := trod_rep by_ hby b hok.2
  have fld : ∀ (f : Field) (r : List Field) (off : Nat), (TyPF P a).1 f.type → f.offset = off → (TyPF P b).2 r (off + a.size) → ∀ (n : Nat) (cs : List Value), cs.length = off + (a.size + b.size) →
   (∀ g ∈ f :: r, ∃ (d : DataW H) (p : List MemPlace), DataW.trod enc P w 0 (fun _ => true) true n g.type ((cs.drop g.offset).take (P.cellsOf g.type)) = some (d, p) ∧ ∀ k ∈ d.weights P g.type, k ≤ reachBytes) →
   ∃ x : (Ty.pair a b).D, Rep w (fun b => b < w.heap.size) (.pair a b) x (cs.drop off) ∧ Wf by_ (.pair a b) x := by
   intro f r off h1 h2 h3 n cs hl hq
   obtain ⟨d, p, hd, hdw⟩ := hq f (List.mem_cons_self ..)
   obtain ⟨x, rx, wx⟩ := iha.1 f.type h1 n _ d p hd hdw
   obtain ⟨y, ry, wy⟩ := ihb.2 r (off + a.size) h3 n cs (by omega) (fun g hg => hq g (List.mem_cons_of_mem _ hg))
   rw [h2, cellsOf_inf (TyP.inf (t := a) h1)] at rx
   refine ⟨(x, y), ⟨_, _, ?_, rx, ry⟩, wx, wy⟩
   rw [← List.drop_drop, List.take_append_drop]
  refine ⟨fun T hT fuel cs d ps h hw => ?_, fun fs off h n cs hl hq => ?_⟩
  · obtain ⟨⟨fs, hfs, f, r, he, h1, h2, _, _, h3, _⟩, hi⟩ := hT
    obtain ⟨xs, n, _, hx, hl, hlen, hq⟩ := DataW.trod_struct hfs h
    rw [cellsOf_inf hi] at hl
    cases hx
    have hww : ∀ k ∈ DataW.weightsEach P (fs.toList.map (·.type)) (xs.map (·.1)), k ≤ reachBytes := by
     intro k hk
     exact hw k (by simp only [DataW.weights, hfs]; exact hk)
    have := fld f r 0 h1 h2 h3 n cs (by simpa [Ty.size] using hl) (fun g hg => by
     rw [← he] at hg
     obtain ⟨i, hi⟩ := List.mem_iff_getElem?.1 hg
     have hq' := hq i g (by simpa using hi)
     have hlt : i < xs.length := by
      have := (List.getElem?_eq_some_iff.1 hi).1
      simp at this; omega
     rw [List.getElem?_eq_getElem hlt] at hq'
     exact ⟨xs[i].1, xs[i].2, hq', weights_each (Q := fun n => n ≤ reachBytes) hww (by simp [hlen]) i g xs[i] hi (List.getElem?_eq_getElem hlt)⟩)
    simpa using this
  · obtain ⟨f, r, rfl, h1, h2, _, _, h3⟩ := h
    exact fld f r off h1 h2 h3 n cs (by simpa [Ty.size] using hl) hq
 | .sl e t, hok => by
  simp only [Ty.okSl, Bool.and_eq_true] at hok
  have hsz : t.size ≠ 0 := fun e => by rw [e] at hok; simp at hok
  have ih := trod_rep by_ hby t hok.1
  refine ⟨fun T hT fuel cs d ps h hw => ?_, fun fs off h => h.elim⟩
  have hb := hby T e t hT
  obtain ⟨h1, h2, h3⟩ := hT
  have hcell := cellsOf_inf (TyP.inf (t := t) h2)
  rcases open_slice h1 h with ⟨rfl, _⟩ | ⟨a, len, cap, m, n, D, Pl, rfl, _, hl, hm, rfl, hx, hi⟩
  · exact ⟨[], ⟨none, 0, [], rfl, Nat.le_refl _, .inl rfl, rfl⟩, fun x hx => by simp at hx, by simp, by simp [maxLen]⟩
  · cases hx
    rw [hcell] at hi
    have hws : ∀ i, i < len → ∀ k ∈ (D i).weights P e, k ≤ reachBytes := by
     intro i hlt
     refine weights_all (Q := fun n => n ≤ reachBytes) (ds := (List.range len).map D) (fun k hk => hw k ?_) (D i) (List.mem_map.2 ⟨i, List.mem_range.2 hlt, rfl⟩)
     simp only [DataW.weights, h1, List.mem_cons, List.mem_append]
     exact .inr (.inl hk)
    have hex : ∀ i, i < len → ∃ p : t.D × List Value, (p.2.length = t.size ∧ ∀ j, j < t.size → w.cell? (a.add (i * t.size + j)) = p.2[j]?) ∧ Rep w (fun b => b < w.heap.size) t p.1 p.2 ∧ Wf by_ t p.1 := by
     intro i hlt
     obtain ⟨cs', hc, ht⟩ := hi i (by omega)
     obtain ⟨x, rx, wx⟩ := ih.1 e h2 n cs' _ _ ht (hws i hlt)
     obtain ⟨_, hcl, hcc⟩ := World.cells?_some hc
     exact ⟨(x, cs'), ⟨hcl, fun j hj => by rw [← add_add]; exact hcc j hj⟩, rx, wx⟩
    have inh : Inhabited (t.D × List Value) := ⟨(t.zero, [])⟩
    obtain ⟨X, hX⟩ := choose_lt hex
    refine ⟨(List.range' 0 len).map (fun i => (X i).1), ⟨some a, m, (List.range' 0 len).flatMap (fun i => (X i).2), by simp, by simpa using hl, ?_, RepL.of_range len 0 (fun i hlt => by simpa using (hX i hlt).2.1)⟩, ?_, ?_, ?_⟩
    · by_cases h0 : len = 0
      · left; subst h0; rfl
      · right
        refine ⟨a, rfl, ?_, fun j u hu => ?_⟩
        · have := (hX 0 (by omega)).1
          have hc := this.2 0 (by omega)
          have hlt : 0 < (X 0).2.length := by omega
          rw [List.getElem?_eq_getElem hlt] at hc
          have := World.block_lt_of_cell? w _ hc
          have hb : (a.add (0 * t.size + 0)).block = a.block := by unfold Addr.add; split <;> rfl
          rwa [hb] at this
        · have := range_cells (w := w) (a := a) (s := t.size) (C := fun i => (X i).2) len 0 (fun i hlt => by simpa using (hX i hlt).1) j u hu
          simpa using this
    · intro x hx
      obtain ⟨i, hi, rfl⟩ := List.mem_map.1 hx
      have : i < len := by simpa using hi
      exact (hX i this).2.2
    · have := hw ((((List.range len).map D).length + ((List.range (m - len)).map fun j => D (len + j)).length) * P.bytesOf e) (by simp only [DataW.weights, h1, List.mem_cons]; exact .inl trivial)
      simp only [List.length_map, List.length_range, hb] at this
      simp only [List.length_map, List.length_range']
      exact Nat.le_trans (Nat.mul_le_mul_right _ (by omega)) this
    · simp only [List.length_map, List.length_range']; omega
theorem open_any {by_ : TypeId → Nat} (hby : ∀ T e t, TyP P (.sl e t) T → P.bytesOf e = by_ e) {t : Ty} {T : TypeId} (hok : t.okSl = true) (hT : TyP P t T) {base : Nat} {v : Value} {d : DataW H} {p : List MemPlace} (hv : Value.okWide P w .any base T v)
 (h : DataW.Trod enc P w 0 (fun _ => true) true T v d p) (hw : ∀ n ∈ d.weights P T, n ≤ reachBytes) : ∃ x, RepV w (fun b => b < w.heap.size) t x v ∧ Wf by_ t x := by
 obtain ⟨fuel, h'⟩ := h
 obtain ⟨x, rx, wx⟩ := (trod_rep (enc := enc) (w := w) by_ hby t hok).1 T hT fuel _ d p h' hw
 refine ⟨x, ⟨v.cells.toList, rx, ?_⟩, wx⟩
 cases t with
 | int k =>
  simp only [Ty.isAgg]
  obtain ⟨n, rfl, _⟩ := open_int hT.1 hv ⟨fuel, h'⟩
  rfl
 | bool =>
  obtain ⟨n, rfl, _⟩ := open_bool hT.1 hv ⟨fuel, h'⟩
  rfl
 | str =>
  obtain ⟨n, rfl, _⟩ := Go.ChangeMaps.open_string hT.1 hv ⟨fuel, h'⟩
  rfl
 | unit =>
  obtain ⟨⟨fs, hfs, _⟩, _⟩ := hT
  obtain ⟨cs, rfl, _⟩ := okWide_struct hfs hv
  simp [Ty.isAgg, Value.cells]
 | pair a b =>
  obtain ⟨⟨fs, hfs, _⟩, _⟩ := hT
  obtain ⟨cs, rfl, _⟩ := okWide_struct hfs hv
  simp [Ty.isAgg, Value.cells]
 | arr n t =>
  obtain ⟨⟨e, he, _⟩, _⟩ := hT
  simp only [Value.okWide, he] at hv
  obtain ⟨cs, rfl, _⟩ := hv
  simp [Ty.isAgg, Value.cells]
 | hole k => simp [Ty.okSl] at hok
 | pt t => simp [Ty.okSl] at hok
 | op t => simp [Ty.okSl] at hok
 | sl e t =>
  obtain ⟨a, len, cap, rfl⟩ := okWide_slice hT.1 hv
  rfl
end
end Go.Iv
