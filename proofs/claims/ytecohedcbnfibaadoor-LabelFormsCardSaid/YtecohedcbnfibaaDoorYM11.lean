/- Plain laws: the document's example runs; which names may be. -/
import Derived.Test.YtecohedcbnfibaaDoorYM9
namespace Go.Iw
open Go.Iv
set_option linter.unusedVariables false
set_option linter.unusedSimpArgs false
set_option maxRecDepth 100000

theorem nameB_int (i : Nat) (b : UInt8) : nameB i b = ((decide (((b.toNat : Nat) : Int) ≥ 97) && decide (((b.toNat : Nat) : Int) ≤ 122)) || (decide ((i : Int) > 0) && ((decide (((b.toNat : Nat) : Int) ≥ 48) && decide (((b.toNat : Nat) : Int) ≤ 57)) || (((b.toNat : Nat) : Int) == 46)))) := by
  have e46 : (b == 46) = (((b.toNat : Nat) : Int) == 46) := by
    rw [Bool.eq_iff_iff, beq_iff_eq, beq_iff_eq]
    constructor
    · intro h; rw [h]; rfl
    · intro h; exact UInt8.toNat_inj.1 (by have : (46 : UInt8).toNat = 46 := rfl; omega)
  have ge (k : UInt8) : decide (k ≤ b) = decide (((b.toNat : Nat) : Int) ≥ (k.toNat : Int)) := by
    rw [Bool.eq_iff_iff, decide_eq_true_iff, decide_eq_true_iff, UInt8.le_iff_toNat_le]; omega
  have le (k : UInt8) : decide (b ≤ k) = decide (((b.toNat : Nat) : Int) ≤ (k.toNat : Int)) := by
    rw [Bool.eq_iff_iff, decide_eq_true_iff, decide_eq_true_iff, UInt8.le_iff_toNat_le]; omega
  have h0 : (i != 0) = decide ((i : Int) > 0) := by
    rw [Bool.eq_iff_iff, bne_iff_ne, decide_eq_true_iff]; omega
  unfold nameB
  rw [e46, ge, ge, le, le, h0]
  rfl

theorem right_loop (s : ByteArray) (K : Bool → Prop) (hs : s.size < 9223372036854775807) : ∀ (m i : Nat) (ok : Bool), i + m = s.size → K (ok && nameL i (s.data.toList.drop i)) → law08.right.l3 K (m + 1) s ok (i : Int) := by
  intro m
  induction m with
  | zero =>
    intro i ok hi h
    have e : s.data.toList.drop i = [] := List.drop_eq_nil_of_le (by have : s.data.toList.length = s.size := Array.length_toList
                                                                     omega)
    rw [e] at h
    unfold law08.right.l3
    rw [lt_false (by omega), br_false]
    simpa [nameL] using h
  | succ m ih =>
    intro i ok hi h
    have hl : s.data.toList.length = s.size := Array.length_toList
    have hlt : i < s.data.toList.length := by omega
    have eb : bt s (i : Int) = (((s.data.toList[i]).toNat : Nat) : Int) := by
      unfold bt
      rw [Int.toNat_natCast, List.getD_eq_getElem?_getD, List.getElem?_eq_getElem hlt]; rfl
    rw [List.drop_eq_getElem_cons hlt] at h
    have h' : K (ok && (nameB i s.data.toList[i] && nameL (i + 1) (s.data.toList.drop (i + 1)))) := h
    have ih' : ∀ ok', K (ok' && nameL (i + 1) (s.data.toList.drop (i + 1))) → law08.right.l3 K (m + 1) s ok' (IntKind.wrap .i64 ((i : Int) + 1)) := by
      intro ok' hk
      rw [wrap_succ i (by omega)]
      exact ih (i + 1) ok' (by omega) hk
    rw [law08.right.l3]
    rw [lt_true (by omega), br_true]
    refine ⟨⟨by omega, by omega⟩, ?_⟩
    cases ok with
    | false => rw [br_false]; exact ih' _ (by simpa using h')
    | true =>
      rw [br_true, eb]
      rw [nameB_int] at h'
      generalize decide ((((s.data.toList[i]).toNat : Nat) : Int) ≥ 97) = c1 at h' ⊢
      generalize decide ((((s.data.toList[i]).toNat : Nat) : Int) ≤ 122) = c2 at h' ⊢
      generalize decide ((((s.data.toList[i]).toNat : Nat) : Int) ≥ 48) = c3 at h' ⊢
      generalize decide ((((s.data.toList[i]).toNat : Nat) : Int) ≤ 57) = c4 at h' ⊢
      generalize decide ((i : Int) > 0) = c5 at h' ⊢
      generalize ((((s.data.toList[i]).toNat : Nat) : Int) == 46) = c6 at h' ⊢
      cases c1 <;> cases c2 <;> cases c5 <;> cases c3 <;> cases c4 <;> simp only [br_true, br_false] <;> exact ih' _ (by simpa using h')

theorem right_law (s : ByteArray) (K : Bool → Prop) (hs : s.size < 9223372036854775807) (h : K (rightB s)) : law08.right s K := by
  have hl : s.data.toList.length = s.size := Array.length_toList
  have hn : (ByteArray.toList s == ByteArray.toList noStr) = (s.size == 0) := by
    rw [ByteArray.toList_eq, ByteArray.toList_eq, Bool.eq_iff_iff, beq_iff_eq, beq_iff_eq]
    constructor
    · intro h; rw [← hl, h]; rfl
    · intro h; have : s.data.toList = [] := List.eq_nil_of_length_eq_zero (by omega)
      rw [this]
  have hb : Nat.ble s.size 12 = decide (((s.size : Nat) : Int) ≤ 12) := by
    rw [Bool.eq_iff_iff, Nat.ble_eq, decide_eq_true_iff]; omega
  unfold law08.right law08.right.j4
  unfold rightB at h
  rw [hb] at h
  rw [hn]
  have go := fun ok hk => right_loop s K hs s.size 0 ok (by omega) hk
  cases hz : s.size == 0 with
  | true =>
    rw [Bool.not_true, br_false]
    refine ⟨s.size + 1, go false ?_⟩
    have : (s.size != 0) = false := by simpa using hz
    rw [this] at h
    simpa using h
  | false =>
    rw [Bool.not_false, br_true]
    refine ⟨s.size + 1, go _ ?_⟩
    have : (s.size != 0) = true := by simpa using hz
    rw [this] at h
    simpa [Bool.and_comm] using h

theorem fresh_law {Kz0 : Bool → DiskH → TableH → (List (List Int)) → (List write) → JournalH → Prop} {Kz2 : Bool → DiskH → (List (List Int)) → (List write) → Prop} {Kz3 : Bool → Prop}
    (h : ∀ s w j d, Tab 1 (List.replicate 70 (List.replicate 64 0)) (List.replicate 12 rZ) s w j d → dLeft d = -1 → Kz0 true d (mkT (List.replicate 12 rZ)) s w j) : law08.fresh Kz0 Kz2 Kz3 := by
  unfold law08.fresh
  refine New_s (n := 119) (by decide) ?_
  refine (shut_new (n := 119) (by decide) (by decide)).reopen (Nat.le_refl _) rfl (l := List.replicate 12 rZ) (by show 61 ≤ (List.replicate 70 _).length; rw [List.length_replicate]; decide) TabL.zero (tied_new (by decide)) (fun s w j d ht hd => ?_)
  rw [ite_eq0, br_false]
  refine ht.open_tab ?_
  exact h s w j d ht hd
theorem rep_none {k : Nat} (hk : k < 12) : ((List.replicate 12 rZ).getD k rZ).1 = noStr := by
  rw [getD_getElem (by rw [List.length_replicate]; exact hk), List.getElem_replicate]
theorem one_name {r : Ref} {k : Nat} (hk : k < 12) : (((List.replicate 12 rZ).set 0 r).getD k rZ) = if k = 0 then r else rZ := by
  rw [set_getD]
  by_cases e : k = 0
  · subst e; rw [if_pos ⟨rfl, by rw [List.length_replicate]; decide⟩, if_pos rfl]
  · rw [if_neg (fun e2 => e e2.1.symm), if_neg e, getD_getElem (by rw [List.length_replicate]; exact hk), List.getElem_replicate]
theorem eqT_arr8 : ∀ (xs : List Int), (List.zipWith (eqT (.int .u8)) xs xs).all id = true
  | [] => rfl
  | x :: r => by
    show (eqT (.int .u8) x x && _) = true
    have : eqT (.int .u8) x x = true := by
      show (x == x) = true
      exact beq_self_eq_true x
    rw [this]
    exact eqT_arr8 r
theorem awake_law (K : Bool → Prop) (h : K true) : law08.awake K := by
  unfold law08.awake
  generalize hm : (ByteArray.mk #[109, 97, 105, 110]) = main
  have hr : rightB main = true := by rw [← hm]; decide +kernel
  obtain ⟨h12, h0, hn⟩ := rightB_size hr
  have z32 : (List.replicate 32 (0 : Int)).length = 32 := List.length_replicate ..
  generalize hk5 : List.set (List.replicate 32 (0 : Int)) 0 (5 : Int) = k5
  have hk5w : k5.length = 32 ∧ Byt k5 := by
    rw [← hk5]
    refine ⟨by rw [List.length_set]; exact z32, fun x hx => ?_⟩
    rcases List.mem_or_eq_of_mem_set hx with hx | rfl
    · exact Byt.zeros 32 x hx
    · decide
  refine fresh_law fun s w j d ht hd => ?_
  rw [Bool.not_true, br_false]
  have only : ∀ (r : Ref) (l : List Ref), l = (List.replicate 12 rZ).set 0 r → ∀ k, k < 12 → (l.getD k rZ).1 = main → k = 0 := fun r l hl k hk e => by
    rw [hl, one_name hk] at e
    by_cases e0 : k = 0
    · exact e0
    · rw [if_neg e0] at e; exact absurd e.symm hn
  refine ht.make (by decide) (r := (main, ((List.replicate 32 (0 : Int)), (false, ())))) ⟨z32, Byt.zeros 32⟩ (fun hf => absurd hr (by rw [show rightB main = false from hf]; decide)) (fun _ ⟨k, hk, e⟩ => absurd (e.symm.trans (rep_none hk)) hn) (fun _ _ hfull => absurd (rep_none (show 0 < 12 by decide)) (hfull 0 (by decide))) (fun _ _ i hi hin hmin s1 w1 j1 d1 ht1 hd1 => ?_) (fun hne => absurd hd hne)
  have hi0 : i = 0 := by
    rcases Nat.eq_zero_or_pos i with e | e
    · exact e
    · exact absurd (rep_none (show 0 < 12 by decide)) (hmin 0 e)
  subst hi0
  generalize hl1 : (List.replicate 12 rZ).set 0 (main, ((List.replicate 32 (0 : Int)), (false, ()))) = l1 at ht1 ⊢
  have o1 := only _ l1 hl1.symm
  have n1 : (l1.getD 0 rZ) = (main, ((List.replicate 32 (0 : Int)), (false, ()))) := by rw [← hl1, one_name (by decide), if_pos rfl]
  refine ht1.move (by decide) hk5w (fun hno => hno.elim (fun e => absurd e hn) (fun hno => absurd (by rw [n1]) (hno 0 (by decide)))) (fun _ k hk e hf => ?_) (fun _ k hk e hf s2 w2 j2 d2 ht2 hd2 => ?_) (fun hne => absurd (hd1 hd) hne)
  · rw [o1 k hk e, n1] at hf; cases hf
  have hk0 := o1 k hk e
  subst hk0
  generalize hl2 : l1.set 0 (main, (k5, (false, ()))) = l2 at ht2 ⊢
  have hl2' : l2 = (List.replicate 12 rZ).set 0 (main, (k5, (false, ()))) := by rw [← hl2, ← hl1, List.set_set]
  have o2 := only _ l2 hl2'
  have n2 : (l2.getD 0 rZ) = (main, (k5, (false, ()))) := by rw [hl2', one_name (by decide), if_pos rfl]
  refine Tget (x := (_, (l2, ()))) ht2.tab (fun hno => hno.elim (fun e => absurd e hn) (fun hno => absurd (by show (l2.getD 0 rZ).1 = main; rw [n2]) (hno 0 (by decide)))) (fun _ k hk e => ?_)
  have hk0 := o2 k hk e
  subst hk0
  have e0 : ((0 : Int) == (0 : Int)) = true := rfl
  have n2' : ((mkT l2).2.1.getD 0 rZ) = (main, (k5, (false, ()))) := n2
  rw [e0, br_true, br_true, br_true]
  show br (eqT (.arr 32 (.int .u8)) (l2.getD 0 rZ).2.1 k5) _ _
  rw [n2]
  have eqk : eqT (.arr 32 (.int .u8)) k5 k5 = true := eqT_arr8 k5
  show br (eqT (.arr 32 (.int .u8)) k5 k5) _ _
  rw [eqk, br_true]
  refine ht2.drop (by decide) (fun hno => hno.elim (fun e => absurd e hn) (fun hno => absurd (by rw [n2]) (hno 0 (by decide)))) (fun _ k hk e s3 w3 j3 d3 ht3 hd3 => ?_) (fun hne => absurd (hd2 (hd1 hd)) hne)
  have hk0 := o2 k hk e
  subst hk0
  rw [e0, br_true]
  refine Tall ht3.tab.len fun L hp _ => ?_
  have hl3 : l2.set 0 rZ = List.replicate 12 rZ := by rw [hl2', List.set_set]; rfl
  rw [hl3] at hp
  have : liveR (List.replicate 12 rZ) = [] := by
    unfold liveR
    rw [List.filter_eq_nil_iff]
    intro r hr
    rw [(List.mem_replicate.1 hr).2]
    simp
  rw [this] at hp
  have := hp.eq_nil
  rw [this]
  exact h
end Go.Iw
