/- Plain specifications: texts in order; refs, sorted. -/
import Derived.Test.YtecohedcbnfibaaDoorYM7
namespace Go.Iw
open Go.Iv
set_option linter.unusedVariables false
set_option linter.unusedSimpArgs false
set_option maxRecDepth 100000

theorem u8_lt {a b : UInt8} : a < b ↔ a.toNat < b.toNat := UInt8.lt_iff_toNat_lt
theorem u8_eq {a b : UInt8} (h : a.toNat = b.toNat) : a = b := UInt8.toNat_inj.1 h
theorem cmpB_swap : ∀ a b : List UInt8, cmpB a b = - cmpB b a
  | [], [] => rfl
  | [], _ :: _ => rfl
  | _ :: _, [] => rfl
  | x :: r, y :: t => by
    unfold cmpB
    simp only [u8_lt]
    by_cases h1 : x.toNat < y.toNat
    · rw [if_pos h1, if_neg (by omega), if_pos h1]
    · rw [if_neg h1]
      by_cases h2 : y.toNat < x.toNat
      · rw [if_pos h2, if_pos h2]; rfl
      · rw [if_neg h2, if_neg h2, if_neg h1]; exact cmpB_swap r t
theorem cmpB_zero : ∀ a b : List UInt8, cmpB a b = 0 → a = b
  | [], [], _ => rfl
  | [], _ :: _, h => by cases h
  | _ :: _, [], h => by cases h
  | x :: r, y :: t, h => by
    unfold cmpB at h
    simp only [u8_lt] at h
    split at h
    · cases h
    · split at h
      · cases h
      · rename_i h1 h2
        rw [u8_eq (show x.toNat = y.toNat by omega), cmpB_zero r t h]
theorem cmpB_trans : ∀ a b c : List UInt8, cmpB a b ≤ 0 → cmpB b c ≤ 0 → cmpB a c ≤ 0
  | [], _, [], _, _ => by unfold cmpB; decide
  | [], _, _ :: _, _, _ => by unfold cmpB; decide
  | x :: r, [], _, h, _ => by unfold cmpB at h; exact absurd h (by decide)
  | x :: r, y :: t, [], _, h => by unfold cmpB at h; exact absurd h (by decide)
  | x :: r, y :: t, z :: u, h1, h2 => by
    unfold cmpB at h1 h2 ⊢
    simp only [u8_lt] at h1 h2 ⊢
    split at h1
    · split at h2
      · rw [if_pos (by omega)]; decide
      · split at h2
        · exact absurd h2 (by decide)
        · rw [if_pos (by omega)]; decide
    · split at h1
      · exact absurd h1 (by decide)
      · split at h2
        · rw [if_pos (by omega)]; decide
        · split at h2
          · exact absurd h2 (by decide)
          · rw [if_neg (by omega), if_neg (by omega)]; exact cmpB_trans r t u h1 h2
theorem cmpB_less : ∀ a b : List UInt8, Op.bytesLess a b = decide (cmpB a b < 0)
  | [], [] => rfl
  | [], _ :: _ => rfl
  | _ :: _, [] => rfl
  | x :: r, y :: t => by
    unfold Op.bytesLess cmpB
    simp only [u8_lt]
    by_cases h1 : x.toNat < y.toNat
    · simp [h1]
    · by_cases h2 : y.toNat < x.toNat
      · have : ¬ x = y := fun e => by subst e; omega
        simp [h1, h2, this]
      · have : x = y := u8_eq (by omega)
        simp [h1, h2, this, cmpB_less r t]

abbrev cmpN (a b : ByteArray) : Int := cmpB a.data.toList b.data.toList
theorem cmpN_eq {a b : ByteArray} (h : cmpN a b = 0) : a = b := by
  have := cmpB_zero _ _ h
  cases a; cases b
  congr 1
  exact Array.toList_inj.1 this
def SortR (l : List Ref) : Prop := l.Pairwise fun a b => cmpN a.1 b.1 ≤ 0
theorem ins_state {A R : List Ref} {a x : Ref} : (A ++ a :: R).set A.length x = A ++ x :: R := by
  rw [List.set_append_right _ _ (Nat.le_refl _), Nat.sub_self]; rfl
theorem ins_state2 {A R : List Ref} {a x : Ref} : (A ++ a :: x :: R).set (A.length + 1) a = A ++ a :: a :: R := by
  rw [List.set_append_right _ _ (by omega), show A.length + 1 - A.length = 1 from by omega]; rfl
theorem get_at0 {A R : List Ref} {a z : Ref} : ixN z (A ++ a :: R) A.length = a := by
  unfold ixN; rw [List.getD_eq_getElem?_getD, List.getElem?_append_right (Nat.le_refl _), Nat.sub_self]; rfl
theorem get_at1 {A R : List Ref} {a x z : Ref} : ixN z (A ++ a :: x :: R) (A.length + 1) = x := by
  unfold ixN; rw [List.getD_eq_getElem?_getD, List.getElem?_append_right (by omega), show A.length + 1 - A.length = 1 from by omega]; rfl
theorem sort_inner (B : List Ref) (x : Ref) (n i : Nat) (hn : n < 1000000) (K0 : Int → Int → Int → (List Ref) → Prop) :
    ∀ (A1 A2 : List Ref), A1.length + 1 + A2.length + B.length = n → (∀ a ∈ A2, cmpN x.1 a.1 < 0) → SortR (A1 ++ A2) →
      (∀ L, L.Perm (A1 ++ x :: A2) → SortR L → K0 0 (n : Int) (i : Int) (L ++ B)) →
      slices.insertionSortCmpFunc_Ref.l4 K0 (A1.length + 2) 0 (n : Int) (i : Int) (A1.length : Int) (A1 ++ x :: (A2 ++ B)) := by
  intro A1
  generalize hk : A1.length = k
  induction k generalizing A1 with
  | zero =>
    intro A2 hl hx hs hK
    obtain rfl := List.eq_nil_of_length_eq_zero hk
    unfold slices.insertionSortCmpFunc_Ref.l4
    rw [ngt_int (by decide), br_false]
    unfold slices.insertionSortCmpFunc_Ref.j10
    rw [br_false]
    have := hK (x :: A2) (List.Perm.refl _) (List.pairwise_cons.2 ⟨fun a ha => Int.le_of_lt (hx a ha), hs⟩)
    exact this
  | succ k ih =>
    intro A2 hl hx hs hK
    obtain ⟨A, a, rfl⟩ : ∃ A a, A1 = A ++ [a] := ⟨A1.dropLast, A1.getLast (by intro e; rw [e] at hk; cases hk), (List.dropLast_concat_getLast _).symm⟩
    have hA : A.length = k := by rw [List.length_append] at hk; simpa using hk
    have eL : A ++ [a] ++ x :: (A2 ++ B) = A ++ a :: x :: (A2 ++ B) := by rw [List.append_assoc]; rfl
    have ew : IntKind.wrap .i64 (((k + 1 : Nat) : Int) - 1) = (k : Int) := by rw [wrap_small (by omega) (by omega)]; omega
    have g1 : ixN Ref.z (A ++ a :: x :: (A2 ++ B)) (Int.toNat ((k + 1 : Nat) : Int)) = x := by rw [Int.toNat_natCast, ← hA]; exact get_at1
    have g0 : ixN Ref.z (A ++ a :: x :: (A2 ++ B)) (Int.toNat ((k : Nat) : Int)) = a := by rw [Int.toNat_natCast, ← hA]; exact get_at0
    have ll : (A ++ a :: x :: (A2 ++ B)).length = n := by
      rw [List.length_append, List.length_cons, List.length_cons, List.length_append]; omega
    rw [eL]
    rw [slices.insertionSortCmpFunc_Ref.l4]
    rw [gt_int (by omega), br_true, ew, g1, g0]
    refine ⟨⟨by omega, by omega⟩, by rw [Int.toNat_natCast]; omega, ⟨by omega, by omega⟩, by rw [Int.toNat_natCast]; omega, ?_⟩
    unfold label.Table_All_c1 strings.Compare slices.insertionSortCmpFunc_Ref.j10
    show br (decide (cmpN x.1 a.1 < 0)) _ _
    by_cases hlt : cmpN x.1 a.1 < 0
    · rw [lt_int hlt, br_true, ew, g1, g0]
      have s1 : (A ++ a :: x :: (A2 ++ B)).set (Int.toNat ((k + 1 : Nat) : Int)) a = A ++ a :: a :: (A2 ++ B) := by rw [Int.toNat_natCast, ← hA]; exact ins_state2
      have s2 : (A ++ a :: a :: (A2 ++ B)).set (Int.toNat ((k : Nat) : Int)) x = A ++ x :: a :: (A2 ++ B) := by rw [Int.toNat_natCast, ← hA]; exact ins_state
      rw [s1, s2]
      have ll2 : (A ++ a :: a :: (A2 ++ B)).length = n := by
        rw [List.length_append, List.length_cons, List.length_cons, List.length_append]; omega
      refine ⟨⟨by omega, by omega⟩, by rw [Int.toNat_natCast]; omega, ⟨by omega, by omega⟩, by rw [Int.toNat_natCast]; omega, ⟨by omega, by omega⟩, by rw [Int.toNat_natCast]; omega, ⟨by omega, by omega⟩, by rw [Int.toNat_natCast]; omega, ?_⟩
      have := ih A hA (a :: A2) (by rw [List.length_cons]; rw [List.length_append, List.length_singleton] at hk; omega) (fun b hb => ?_) (by rw [List.append_assoc] at hs; exact hs) (fun L hp hsL => hK L (hp.trans ?_) hsL)
      · exact this
      · rcases List.mem_cons.1 hb with rfl | hb
        · exact hlt
        · exact hx b hb
      · rw [List.append_assoc]
        exact List.Perm.append_left A (List.Perm.swap _ _ _)
    · rw [nlt_int (show 0 ≤ cmpN x.1 a.1 by omega), br_false]
      have hax : cmpN a.1 x.1 ≤ 0 := by
        have h1 := cmpB_swap a.1.data.toList x.1.data.toList
        have h2 : ¬ cmpB x.1.data.toList a.1.data.toList < 0 := hlt
        show cmpB _ _ ≤ 0
        omega
      have := hK (A ++ [a] ++ x :: A2) (List.Perm.refl _) ?_
      · have e2 : A ++ [a] ++ x :: A2 ++ B = A ++ a :: x :: (A2 ++ B) := by simp
        rw [e2] at this
        exact this
      · rw [SortR, List.pairwise_append] at hs ⊢
        refine ⟨hs.1, List.pairwise_cons.2 ⟨fun b hb => Int.le_of_lt (hx b hb), hs.2.1⟩, fun u hu b hb => ?_⟩
        rcases List.mem_cons.1 hb with rfl | hb
        · rw [List.pairwise_append] at hs
          rcases List.mem_append.1 hu with hu | hu
          · exact cmpB_trans _ _ _ (hs.1.2.2 u hu a (by simp)) hax
          · simp at hu; subst hu; exact hax
        · exact hs.2.2 u hu b hb
theorem sort_outer (l0 : List Ref) (n : Nat) (hn : n < 1000000) (hl0 : l0.length = n) (K0 : (List Ref) → Prop) (hK : ∀ L, L.Perm l0 → SortR L → K0 L) :
    ∀ (m : Nat) (A B : List Ref), A.length + m = n → B.length = m → 1 ≤ A.length → SortR A → (A ++ B).Perm l0 →
      slices.insertionSortCmpFunc_Ref.l1 K0 (m + 1) 0 (n : Int) (A.length : Int) (A ++ B) := by
  intro m
  induction m with
  | zero =>
    intro A B hA hB h1 hs hp
    obtain rfl := List.eq_nil_of_length_eq_zero hB
    unfold slices.insertionSortCmpFunc_Ref.l1
    rw [nlt_int (by omega), br_false]
    rw [List.append_nil] at hp ⊢
    exact hK A hp hs
  | succ m ih =>
    intro A B hA hB h1 hs hp
    obtain ⟨x, B', rfl⟩ : ∃ x B', B = x :: B' := by
      cases B with
      | nil => cases hB
      | cons x B' => exact ⟨x, B', rfl⟩
    have hB' : B'.length = m := by simpa using hB
    rw [slices.insertionSortCmpFunc_Ref.l1]
    rw [lt_int (by omega), br_true]
    refine ⟨A.length + 2, ?_⟩
    have := sort_inner B' x n A.length hn (fun a1 b2 i8 ot => slices.insertionSortCmpFunc_Ref.l1 K0 (m + 1) a1 b2 (IntKind.wrap .i64 (i8 + (1 : Int))) ot) A [] (by rw [List.length_nil]; omega) (fun a ha => by cases ha) (by rw [List.append_nil]; exact hs) (fun L hpL hsL => ?_)
    · exact this
    · have hLl : L.length = A.length + 1 := by rw [hpL.length_eq, List.length_append]; rfl
      show slices.insertionSortCmpFunc_Ref.l1 K0 (m + 1) 0 (n : Int) (IntKind.wrap .i64 ((A.length : Int) + 1)) (L ++ B')
      rw [wrap_succ A.length (by omega), ← hLl]
      refine ih L B' (by omega) hB' (by omega) hsL (List.Perm.trans ?_ hp)
      have e : A ++ x :: B' = (A ++ [x]) ++ B' := by simp
      rw [e]
      exact List.Perm.append_right B' hpL
theorem bits_Len {K : Int → Prop} {n : Nat} (hn : n < 256) (h : ∀ r, K r) : bits.Len (IntKind.wrap .u64 ((n : Nat) : Int)) K := by
  have e : IntKind.wrap .u64 ((n : Nat) : Int) = (n : Int) := by rw [IntKind.wrap_u64]; omega
  unfold bits.Len bits.Len64
  rw [e, nge_int (by omega), br_false]
  unfold bits.Len64.j17
  rw [nge_int (by omega), br_false]
  unfold bits.Len64.j29
  rw [nge_int (by omega), br_false]
  unfold bits.Len64.j41
  rw [wrap_small_u8 (by omega) (by omega)]
  refine ⟨⟨by omega, ?_⟩, h _⟩
  show (n : Int) < ((256 : Nat) : Int)
  omega
theorem SortFunc_s {l : List Ref} {K : (List Ref) → Prop} (hl : l.length ≤ 12) (h : ∀ L, L.Perm l → SortR L → K L) : slices.SortFunc_Ref_Ref l K := by
  unfold slices.SortFunc_Ref_Ref
  refine bits_Len (by omega) fun r => ?_
  unfold slices.pdqsortCmpFunc_Ref
  refine ⟨0 + 1, ?_⟩
  rw [slices.pdqsortCmpFunc_Ref.l2]
  have e : IntKind.wrap .i64 (((l.length : Nat) : Int) - 0) = ((l.length : Nat) : Int) := by rw [wrap_small (by omega) (by omega)]; omega
  rw [e, le_int (by omega), br_true]
  unfold slices.insertionSortCmpFunc_Ref
  have e1 : IntKind.wrap .i64 ((0 : Int) + (1 : Int)) = 1 := by rw [wrap_small (by decide) (by decide)]; rfl
  rw [e1]
  cases l with
  | nil =>
    refine ⟨0 + 1, ?_⟩
    rw [slices.insertionSortCmpFunc_Ref.l1]
    rw [nlt_int (by decide), br_false]
    exact h [] (List.Perm.refl _) List.Pairwise.nil
  | cons x t =>
    have ht : t.length + 1 ≤ 12 := hl
    exact ⟨t.length + 1, sort_outer (x :: t) (t.length + 1) (by omega) rfl K h t.length [x] t (by rw [List.length_singleton]; omega) rfl (Nat.le_refl _) (List.pairwise_singleton _ _) (List.Perm.refl _)⟩
end Go.Iw
