/- chart.IDs: numbers sorted, each once. -/
import Derived.Lib.SlicesCompact
import Derived.Test.YtdniiaomhojlhaaDPl
namespace Go.Iw
open Go.Iv
set_option linter.unusedVariables false
set_option linter.unusedSimpArgs false

/-- Numbers that rise. -/
def UpI (l : List Int) : Prop := l.Pairwise fun x y => x < y
theorem upI_cons {x : Int} {c : List Int} : UpI (x :: c) ↔ (∀ y ∈ c, x < y) ∧ UpI c := List.pairwise_cons
theorem upI_ext : ∀ {c d : List Int}, UpI c → UpI d → (∀ x, x ∈ c ↔ x ∈ d) → c = d
  | [], [], _, _, _ => rfl
  | [], y :: d, _, _, h => by have := (h y).2 (by simp); simp at this
  | x :: c, [], _, _, h => by have := (h x).1 (by simp); simp at this
  | x :: c, y :: d, hc, hd, h => by
    have h1 := (upI_cons.1 hc).1
    have h2 := (upI_cons.1 hd).1
    have e : x = y := by
      rcases List.mem_cons.1 ((h x).1 (by simp)) with e | hx
      · exact e
      · rcases List.mem_cons.1 ((h y).2 (by simp)) with e | hy
        · exact e.symm
        · have := h1 y hy; have := h2 x hx; omega
    subst e
    congr 1
    refine upI_ext (upI_cons.1 hc).2 (upI_cons.1 hd).2 fun z => ⟨fun hz => ?_, fun hz => ?_⟩
    · rcases List.mem_cons.1 ((h z).1 (by simp [hz])) with rfl | h'
      · have := h1 z hz; omega
      · exact h'
    · rcases List.mem_cons.1 ((h z).2 (by simp [hz])) with rfl | h'
      · have := h2 z hz; omega
      · exact h'
theorem ins_mem (n : Int) : ∀ (l : List Int) (z : Int), z ∈ insI n l ↔ z = n ∨ z ∈ l
  | [], z => by simp [insI]
  | m :: r, z => by
    unfold insI
    split
    · simp
    · split
      · rename_i h; subst h; simp
      · rw [List.mem_cons, ins_mem n r z, List.mem_cons]
        constructor
        · rintro (h | h | h) <;> simp [h]
        · rintro (h | h | h) <;> simp [h]
theorem ins_up (n : Int) : ∀ (l : List Int), UpI l → UpI (insI n l)
  | [], _ => by simp [insI, UpI]
  | m :: r, h => by
    have h1 := (upI_cons.1 h).1
    unfold insI
    split
    · refine upI_cons.2 ⟨fun y hy => ?_, h⟩
      rcases List.mem_cons.1 hy with rfl | hy
      · assumption
      · have := h1 y hy; omega
    · split
      · exact h
      · refine upI_cons.2 ⟨fun y hy => ?_, ins_up n r (upI_cons.1 h).2⟩
        rcases (ins_mem n r y).1 hy with rfl | hy
        · omega
        · exact h1 y hy
theorem srt_mem : ∀ (l : List Int) (z : Int), z ∈ sortI l ↔ z ∈ l
  | [], z => by simp [sortI]
  | n :: r, z => by show z ∈ insI n (sortI r) ↔ _; rw [ins_mem, srt_mem r z, List.mem_cons]
theorem srt_up : ∀ (l : List Int), UpI (sortI l)
  | [] => List.Pairwise.nil
  | n :: r => ins_up n _ (srt_up r)
theorem ins_len (n : Int) : ∀ l : List Int, (insI n l).length ≤ l.length + 1
  | [] => by simp [insI]
  | m :: r => by
    unfold insI
    split
    · simp
    · split
      · simp
      · have := ins_len n r; simp; omega
theorem srt_len : ∀ l : List Int, (sortI l).length ≤ l.length
  | [] => by simp [sortI]
  | n :: r => by
    have := srt_len r
    have := ins_len n (sortI r)
    show (insI n (sortI r)).length ≤ _
    simp; omega
theorem upto_succ (d : Array Int) (m : Nat) : Lib.compactUpTo d (m + 1) = Lib.compactUpTo d m ++ if Lib.keeps d m = true then [d[m]!] else [] := by
  unfold Lib.compactUpTo
  rw [List.range_succ, List.filter_append, List.map_append]
  congr 1
  cases h : Lib.keeps d m <;> simp [h]
theorem upto_is (d : Array Int) (hs : ∀ i j, i < j → j < d.size → d[i]! ≤ d[j]!) : ∀ m, m ≤ d.size → UpI (Lib.compactUpTo d m) ∧ (∀ z, z ∈ Lib.compactUpTo d m ↔ ∃ j, j < m ∧ z = d[j]!)
  | 0, _ => by
    constructor
    · exact List.Pairwise.nil
    · intro z; simp [Lib.compactUpTo]
  | m + 1, h => by
    obtain ⟨a, b⟩ := upto_is d hs m (by omega)
    rw [upto_succ]
    have le : ∀ z, z ∈ Lib.compactUpTo d m → 0 < m ∧ z ≤ d[m - 1]! := fun z hz => by
      obtain ⟨j, hj, e⟩ := (b z).1 hz
      refine ⟨by omega, ?_⟩
      rcases Nat.lt_or_ge j (m - 1) with h1 | h1
      · rw [e]; exact hs j (m - 1) h1 (by omega)
      · have : j = m - 1 := by omega
        rw [e, this]; exact Int.le_refl _
    cases hk : Lib.keeps d m with
    | true =>
      rw [if_pos rfl]
      constructor
      · refine List.pairwise_append.2 ⟨a, by simp, fun x hx y hy => ?_⟩
        simp at hy
        subst hy
        obtain ⟨h0, h1⟩ := le x hx
        have h2 := hs (m - 1) m (by omega) (by omega)
        have h3 : d[m]! ≠ d[m - 1]! := fun e => by rw [Lib.keeps_neg h0 e] at hk; cases hk
        omega
      · intro z
        rw [List.mem_append, b z]
        constructor
        · rintro (⟨j, hj, e⟩ | hz)
          · exact ⟨j, by omega, e⟩
          · exact ⟨m, by omega, by simpa using hz⟩
        · rintro ⟨j, hj, e⟩
          by_cases hjm : j = m
          · exact .inr (by rw [e, hjm]; simp)
          · exact .inl ⟨j, by omega, e⟩
    | false =>
      rw [if_neg (by simp), List.append_nil]
      refine ⟨a, fun z => ?_⟩
      rw [b z]
      have h0 : 0 < m := by
        rcases Nat.eq_zero_or_pos m with h0 | h0
        · subst h0; rw [Lib.keeps_lt_one d 0 (by omega)] at hk; cases hk
        · exact h0
      have e : d[m]! = d[m - 1]! := by
        by_cases e : d[m]! = d[m - 1]!
        · exact e
        · rw [Lib.keeps_pos e] at hk; cases hk
      constructor
      · rintro ⟨j, hj, h⟩; exact ⟨j, by omega, h⟩
      · rintro ⟨j, hj, h⟩
        by_cases hjm : j = m
        · exact ⟨m - 1, by omega, by rw [h, hjm, e]⟩
        · exact ⟨j, by omega, h⟩
theorem sort_is (xs : List Int) : Lib.compact (xs.mergeSort fun x y => decide (x ≤ y)) = sortI xs := by
  have hp := List.mergeSort_perm xs (fun x y => decide (x ≤ y))
  have hs := List.pairwise_mergeSort (le := fun x y => decide ((x : Int) ≤ y)) (fun a b c h1 h2 => by simp at *; omega) (fun a b => by simp; omega) xs
  generalize (xs.mergeSort fun x y => decide (x ≤ y)) = zs at hp hs
  unfold Lib.compact
  obtain ⟨a, b⟩ := upto_is zs.toArray (fun i j hij hj => by
    have hj : j < zs.length := by simpa using hj
    have := List.pairwise_iff_getElem.1 hs i j (by omega) hj hij
    rw [getElem!_pos zs.toArray i (by simp; omega), getElem!_pos zs.toArray j (by simpa using hj)]
    simpa using this) zs.length (by simp)
  refine upI_ext a (srt_up xs) fun z => ?_
  rw [b z, srt_mem, ← hp.mem_iff]
  constructor
  · rintro ⟨j, hj, rfl⟩
    rw [getElem!_pos zs.toArray j (by simpa using hj)]
    simp
  · intro hz
    obtain ⟨j, hj, rfl⟩ := List.mem_iff_getElem.1 hz
    refine ⟨j, hj, ?_⟩
    rw [getElem!_pos zs.toArray j (by simpa using hj)]
    simp
end Go.Iw
