/- Rows of keys that are sorted. -/
import Derived.Test.YtcpeakceigidpaaDoorVHc
set_option linter.all false
namespace Go.Iw
open Go.Iv Go.Proofs Go.RowKit
theorem holds_of_blockV {w : World} {g : Nat} {cur : Array Value} {e : TypeId} {vs : List Value} (hb : w.heap[g]? = some (.cells cur e (0, 0))) (ht : cur.toList.take vs.length = vs) : Sort.Holds id w g 0 vs.toArray := by
 intro j hj
 have hj' : j < vs.length := by simpa using hj
 refine ⟨?_, by simp [World.frozen?, hb]⟩
 have h1 : (cur.toList.take vs.length)[j]? = vs[j]? := by rw [ht]
 rw [List.getElem?_take_of_lt hj'] at h1
 simp only [World.cell?, hb, Nat.zero_add]
 simp only [Option.isSome_none, Bool.false_eq_true, if_false]
 rw [← Array.getElem?_toList, h1]
 simp [hj']
theorem heap_sortedV {w : World} {g n : Nat} {os : Array Obj} {cur : Array Value} {e : TypeId} {fr : Nat × Nat} (d : Array Value) (hb : w.heap[g]? = some (.cells cur e fr)) :
 (Sort.grow (Sort.putRow id (Sort.ahead w n) g 0 d) os).heap[g]? = some (.cells (Sort.putCells id 0 d cur) e fr) := by
 have hg : g < w.heap.size := (Array.getElem?_eq_some_iff.1 hb).1
 rw [Sort.heap_grow_old _ _ (by simpa using hg)]
 simp [Sort.putRow, Sort.mapBlock, Sort.ahead, Array.getElem?_modify, hb, Sort.onCells]
theorem grownBy_sortedV {w : World} {g n : Nat} {os : Array Obj} (d : Array Value) : w.grownBy (Sort.grow (Sort.putRow id (Sort.ahead w n) g 0 d) os) (some g) := by
 refine ⟨rfl, rfl, rfl, by simp, fun k hk hne => ?_⟩
 rw [Sort.heap_grow_old _ _ (by simpa using hk)]
 have : g ≠ k := fun e => hne (by rw [e])
 simp [Sort.putRow, Sort.mapBlock, Sort.ahead, Array.getElem?_modify, this]
theorem take_putCellsV (cur : Array Value) (ts : List Value) (h : ts.length ≤ cur.size) : (Sort.putCells id 0 ts.toArray cur).toList.take ts.length = ts := by
 apply List.ext_getElem?
 intro j
 by_cases hj : j < ts.length
 · rw [List.getElem?_take_of_lt hj, Array.getElem?_toList]
   simp [Sort.putCells, hj, show j < cur.size by omega]
 · rw [List.getElem?_take_eq_none (by omega), List.getElem?_eq_none (by omega)]
theorem flatMap_at {α : Type} [Inhabited α] (enc : α → List Value) (k : Nat) (hk : ∀ x, (enc x).length = k) (hp : 0 < k) : ∀ (l : List α) (t : Nat), t < l.length * k → (l.flatMap enc)[t]? = (enc (l[t / k]!))[t % k]?
 | [], t, h => by simp at h
 | x :: l, t, h => by
  rw [List.flatMap_cons]
  rcases Nat.lt_or_ge t k with h1 | h1
  · rw [List.getElem?_append_left (by rw [hk]; exact h1), Nat.div_eq_of_lt h1, Nat.mod_eq_of_lt h1]; rfl
  · rw [List.getElem?_append_right (by rw [hk]; exact h1), hk, flatMap_at enc k hk hp l (t - k) (by simp at h; rw [Nat.add_mul] at h; omega)]
    have e1 : t / k = (t - k) / k + 1 := by
     rw [← Nat.sub_add_cancel h1, Nat.add_div_right _ hp]; simp
    have e2 : t % k = (t - k) % k := by
     rw [← Nat.sub_add_cancel h1, Nat.add_mod_right]; simp
    rw [e1, e2]
    rfl
theorem flatK_eq {α : Type} [Inhabited α] (enc : α → List Value) (k : Nat) (hk : ∀ x, (enc x).length = k) (hp : 0 < k) (l : List α) : Sort.flatK enc k l.toArray = (l.flatMap enc).toArray := by
 have hlen : (l.flatMap enc).length = l.length * k := by
  induction l with
  | nil => simp
  | cons x l ih => rw [List.flatMap_cons, List.length_append, hk, ih, List.length_cons, Nat.add_mul]; omega
 apply Array.ext
 · simp [hlen]
 · intro t h1 h2
   have ht : t < l.length * k := by simpa using h1
   have h3 := flatMap_at enc k hk hp l t ht
   have h4 : (l.flatMap enc).toArray[t]? = (Sort.flatK enc k l.toArray)[t]? := by
    have hd : t / k < l.length := Nat.div_lt_of_lt_mul (by rw [Nat.mul_comm]; exact ht)
    have hm : t % k < (enc (l[t / k]!)).length := by rw [hk]; exact Nat.mod_lt _ hp
    rw [List.getElem?_toArray, h3, List.getElem?_eq_getElem hm]
    have := Sort.get_flatK enc k l.toArray t (by simpa using ht)
    rw [Array.getElem?_eq_getElem h1, ← getElem!_pos (Sort.flatK enc k l.toArray) t h1, this]
    simp [hm, hd]
    rw [List.getElem?_eq_getElem (by rw [hk]; exact Nat.mod_lt _ hp)]
    rfl
   rw [Array.getElem?_eq_getElem h1, Array.getElem?_eq_getElem h2] at h4
   exact (Option.some.inj h4).symm
def cfK (x y : Key32) : Int := cmpK x.1 y.1
theorem cmpK_anti : ∀ {a b : List Int}, a.length = b.length → ¬ cmpK a b < 0 → ¬ cmpK b a < 0 → a = b
 | [], [], _, _, _ => rfl
 | [], _ :: _, h, _, _ => by simp at h
 | _ :: _, [], h, _, _ => by simp at h
 | x :: a, y :: b, h, h1, h2 => by
  simp only [cmpK] at h1 h2
  by_cases e1 : x < y
  · simp [e1] at h1
  · by_cases e2 : y < x
    · simp [e2] at h2
    · have : x = y := by omega
      subst this
      simp at h1 h2
      have h3 : a = b := cmpK_anti (by simpa using h) (by omega) (by omega)
      rw [h3]
theorem cmpK_irr : ∀ a : List Int, cmpK a a = 0
 | [] => rfl
 | x :: a => by simp [cmpK, cmpK_irr a]
theorem cmpK_trans : ∀ {a b c : List Int}, cmpK a b < 0 → cmpK b c < 0 → cmpK a c < 0
 | [], [], c, h1, h2 => h2
 | [], y :: b, [], h1, h2 => by simp [cmpK] at h2
 | [], y :: b, z :: c, h1, h2 => by simp [cmpK]
 | x :: a, [], c, h1, h2 => by simp [cmpK] at h1
 | x :: a, y :: b, [], h1, h2 => by simp [cmpK] at h2
 | x :: a, y :: b, z :: c, h1, h2 => by
  simp only [cmpK] at h1 h2 ⊢
  by_cases e1 : x < y
  · by_cases e2 : y < z
    · simp [show x < z by omega]
    · by_cases e3 : z < y
      · simp [e2, e3] at h2
      · simp [show x < z by omega]
  · by_cases e4 : y < x
    · simp [e1, e4] at h1
    · have : x = y := by omega
      subst this
      simp at h1
      by_cases e2 : x < z
      · simp [e2]
      · by_cases e3 : z < x
        · simp [e2, e3] at h2
        · simp [e2, e3] at h2 ⊢
          exact cmpK_trans h1 h2
theorem cmpK_ntrans : ∀ {a b c : List Int}, a.length = b.length → b.length = c.length → ¬ cmpK a b < 0 → ¬ cmpK b c < 0 → ¬ cmpK a c < 0
 | [], [], [], _, _, _, _ => by simp [cmpK]
 | [], _ :: _, _, h, _, _, _ => by simp at h
 | _ :: _, [], _, h, _, _, _ => by simp at h
 | [], [], _ :: _, _, h, _, _ => by simp at h
 | _ :: _, _ :: _, [], _, h, _, _ => by simp at h
 | x :: a, y :: b, z :: c, l1, l2, h1, h2 => by
  simp only [cmpK] at h1 h2 ⊢
  by_cases e1 : x < y
  · simp [e1] at h1
  · by_cases e2 : y < z
    · simp [e2] at h2
    · by_cases e3 : x < z
      · omega
      · by_cases e4 : z < x
        · simp [e3, e4]
        · have e5 : x = z := by omega
          have e6 : y = z := by omega
          subst e5; subst e6
          simp at h1 h2 ⊢
          have := cmpK_ntrans (a := a) (b := b) (c := c) (by simpa using l1) (by simpa using l2) (by omega) (by omega)
          omega
theorem ltK (x y : Key32) : ltOf cfK x y = decide (cmpK x.1 y.1 < 0) := rfl
theorem swoK : Sort.SWO (ltOf cfK) where
 irrefl x := by rw [ltK, cmpK_irr]; simp
 trans x y z h1 h2 := by rw [ltK] at *; simp at *; exact cmpK_trans h1 h2
 ntrans x y z h1 h2 := by
  rw [ltK] at *
  simp only [decide_eq_false_iff_not] at *
  exact cmpK_ntrans (x.2.trans y.2.symm) (y.2.trans z.2.symm) h1 h2
theorem totK (x y : Key32) (h1 : ltOf cfK x y = false) (h2 : ltOf cfK y x = false) : x = y := by
 rw [ltK] at h1 h2
 simp only [decide_eq_false_iff_not] at h1 h2
 exact Subtype.ext (cmpK_anti (x.2.trans y.2.symm) h1 h2)
end Go.Iw
