/- Contracts proved by hand: label.Right. -/
import Derived.Test.YtecohedcbnfibaaDoorYCm
import Derived.Lib.RuneLoops
import Derived.Laws.RangeAny
import Derived.Laws.RangeString
import Derived.Lib.OthersKept
namespace Go.Iw
open Go.Iv Go.Proofs Go.RowKit Go.Shelf
set_option linter.unusedVariables false
set_option linter.unusedSimpArgs false

set_option maxHeartbeats 1000000 in
set_option maxRecDepth 100000 in
theorem small_calls (c : Int) (w : World) :
    Calls Tryd.prog 29 #[.int .i32 c] w fun e w' => e = .returned (.bool (decide (97 ≤ c) && decide (c ≤ 122))) ∧ w' = w := by
  go_enter Tryd.func29, Tryd.ntmps29
  go_wp2
  all_goals go_ret
  all_goals refine ⟨?_, rfl⟩
  all_goals simp_all
  all_goals try omega

theorem data_get (s : ByteArray) (pos : Nat) (h : pos < s.size) : s.data.toList.drop pos = s[pos]'h :: s.data.toList.drop (pos + 1) := by
  have : pos < s.data.toList.length := by simpa using h
  rw [List.drop_eq_getElem_cons this]
  rfl

theorem size0_iff (s : ByteArray) : s.toList = [] ↔ s.size = 0 := by
  rw [ByteArray.toList_eq]
  constructor
  · intro h
    have : s.data.toList.length = 0 := by rw [h]; rfl
    simpa using this
  · intro h
    exact List.eq_nil_of_length_eq_zero (by simpa using h)
theorem nameB_iff {i : Nat} {b : UInt8} : nameB i b = true ↔ (97 ≤ b.toNat ∧ b.toNat ≤ 122) ∨ (i ≠ 0 ∧ ((48 ≤ b.toNat ∧ b.toNat ≤ 57) ∨ b.toNat = 46)) := by
  unfold nameB
  simp only [Bool.or_eq_true, Bool.and_eq_true, decide_eq_true_eq, bne_iff_ne, ne_eq, beq_iff_eq, UInt8.le_iff_toNat_le]
  have : b = 46 ↔ b.toNat = 46 := ⟨fun h => by rw [h]; rfl, fun h => UInt8.toNat_inj.1 h⟩
  rw [this]
  exact Iff.rfl

structure RtF (w : World) (s : ByteArray) (pos : Nat) (ci pi : Int) (W1 : World) : Prop where
  lt : pos < s.size
  pi_ : pi = pos
  it : ∃ wd, 1 ≤ wd ∧ W1.heap[w.heap.size]? = some (.stringIter s (pos + wd)) ∧ (((s[pos]'lt).toNat < 128 ∧ ci = (s[pos]'lt).toNat ∧ wd = 1) ∨ (128 ≤ (s[pos]'lt).toNat ∧ 128 ≤ ci))
  bel : Below w.heap.size w W1
  nm : nameL 0 s.data.toList = nameL pos (s.data.toList.drop pos)
theorem RtF.bad {w : World} {s : ByteArray} {pos : Nat} {ci pi : Int} {W1 : World} (F : RtF w s pos ci pi W1) (h : ¬ ((97 ≤ ci ∧ ci ≤ 122) ∨ (pi ≠ 0 ∧ ((48 ≤ ci ∧ ci ≤ 57) ∨ ci = 46)))) : rightB s = false := by
  obtain ⟨hlt, hpi, ⟨wd, _, _, hc⟩, _, hnm⟩ := F
  have : nameB pos (s[pos]'hlt) = false := by
    cases hb : nameB pos (s[pos]'hlt) with
    | false => rfl
    | true =>
      exfalso
      apply h
      rcases nameB_iff.1 hb with hb | ⟨h0, hb⟩ <;> rcases hc with ⟨h1, h2, _⟩ | ⟨h1, _⟩ <;> omega
  unfold rightB
  rw [hnm, data_get s pos hlt]
  simp only [nameL, this, Bool.false_and]
theorem RtF.good {w : World} {s : ByteArray} {pos : Nat} {ci pi : Int} {W1 : World} (F : RtF w s pos ci pi W1) (h : (97 ≤ ci ∧ ci ≤ 122) ∨ (pi ≠ 0 ∧ ((48 ≤ ci ∧ ci ≤ 57) ∨ ci = 46))) :
    W1.heap[w.heap.size]? = some (.stringIter s (pos + 1)) ∧ nameL 0 s.data.toList = nameL (pos + 1) (s.data.toList.drop (pos + 1)) := by
  obtain ⟨hlt, hpi, ⟨wd, _, hit, hc⟩, _, hnm⟩ := F
  rcases hc with ⟨h1, h2, rfl⟩ | ⟨h1, h2⟩
  · refine ⟨hit, ?_⟩
    have : nameB pos (s[pos]'hlt) = true := nameB_iff.2 (by omega)
    rw [hnm, data_get s pos hlt]
    simp only [nameL, this, Bool.true_and]
  · exfalso; omega

set_option maxHeartbeats 600000 in
set_option maxRecDepth 1000000 in
theorem right_calls (s : ByteArray) (w : World) :
    Calls Tryd.prog 10 #[.string s] w fun e w' => e = .returned (.bool (rightB s)) ∧ Below w.heap.size w w' := by
  go_enter Tryd.func10, Tryd.ntmps10
  go_wp2
  go_loopw [7] (fun _ wr => ∃ (pos : Nat), wr.heap[w.heap.size]? = some (.stringIter s pos) ∧ Below w.heap.size w wr ∧ nameL 0 s.data.toList = nameL pos (s.data.toList.drop pos) ∧ pos ≤ s.size) (fun _ wr => s.size - wr.iterPos w.heap.size)
  case atStart =>
    refine ⟨0, ?_, ?_, rfl, by omega⟩
    · have := World.iter_heap w s 0
      simpa using this
    · exact (Below.refl _ w).alloc (Nat.le_refl _) _
  case round =>
    obtain ⟨pos, hit, hbw, hnm, hps⟩ := hrel
    by_cases hp : pos < s.size
    · have hnx0 : ∀ ty, (Instr.next (.pointer (some ⟨w.heap.size, 0, none⟩)) true ty).run Tryd.prog wr = _ := fun ty => Lib.run_next_any_at wr w.heap.size s pos ty hit hp
      have F : RtF w s pos ((Utf8.decode s pos).1 : Int) (pos : Int) (wr.iterAt w.heap.size s (pos + (Utf8.decode s pos).2)) := by
        refine ⟨hp, rfl, ⟨(Utf8.decode s pos).2, ?_, Lib.iterAt_heap wr w.heap.size s pos _ hit, ?_⟩, Lib.below_iterAt hbw (Nat.le_refl _) s _, hnm⟩
        · by_cases ha : (s[pos]'hp).toNat < 128
          · rw [decode_ascii s pos hp ha]; exact Nat.le_refl _
          · exact (decode_high s pos hp (by omega)).2
        · by_cases ha : (s[pos]'hp).toNat < 128
          · rw [decode_ascii s pos hp ha]; exact .inl ⟨ha, rfl, rfl⟩
          · have := (decode_high s pos hp (by omega)).1
            exact .inr ⟨by omega, by omega⟩
      generalize ((Utf8.decode s pos).1 : Int) = ci at hnx0 F
      generalize wr.iterAt w.heap.size s (pos + (Utf8.decode s pos).2) = wn at hnx0 F
      generalize ((pos : Nat) : Int) = pi at hnx0 F
      have hnx := hnx0
      clear hnx0
      go_wp2_with (go_at_call 29; refine (small_calls _ _).mono ?_; rintro e W1 ⟨rfl, rfl⟩)
      all_goals try simp only [Bool.not_eq_true', Bool.not_eq_false', decide_eq_true_eq, decide_eq_false_iff_not, beq_iff_eq, beq_eq_false_iff_ne, bne_iff_ne, bne_eq_false_iff_eq, ne_eq] at *
      all_goals first
        | (go_ret
           refine ⟨?_, F.bel⟩
           rw [F.bad (by omega)]
           first | rfl | (simp; done) | (simp; omega))
        | (go_roundw
           case rel => exact ⟨pos + 1, (F.good (by omega)).1, F.bel, (F.good (by omega)).2, hp⟩
           case measure =>
             have h1 := (F.good (by omega)).1
             simp only [World.iterPos, h1, hit]
             omega)
    · have hnx : ∀ ty, (Instr.next (.pointer (some ⟨w.heap.size, 0, none⟩)) true ty).run Tryd.prog wr = _ := fun ty => Lib.run_next_end_at wr w.heap.size s pos ty hit hp
      have hpe : pos = s.size := by omega
      have hT : nameL 0 s.data.toList = true := by
        rw [hnm, List.drop_eq_nil_of_le (by simp [hpe])]
        rfl
      go_wp2
      all_goals go_ret
      all_goals refine ⟨?_, hbw⟩
      all_goals unfold rightB
      all_goals rw [hT]
      all_goals rename_i hne
      · have h0 : s.size = 0 := (size0_iff s).1 hne
        show Ending.returned (Value.bool false) = _
        rw [h0]; rfl
      · have h0 : s.size ≠ 0 := fun h => hne ((size0_iff s).2 h)
        have h1 : s.toList.isEmpty = false := by simpa [List.isEmpty_iff] using hne
        show Ending.returned (Value.bool (!s.toList.isEmpty && decide ((s.size : Int) ≤ 12))) = _
        rw [h1]
        have h2 : (s.size != 0) = true := by simpa using h0
        rw [h2]
        by_cases h3 : s.size ≤ 12
        · rw [show Nat.ble s.size 12 = true from Nat.ble_eq_true_of_le h3, decide_eq_true (show (s.size : Int) ≤ 12 by omega)]; rfl
        · rw [show Nat.ble s.size 12 = false from by rw [← Bool.not_eq_true, Nat.ble_eq]; exact h3, decide_eq_false (show ¬ (s.size : Int) ≤ 12 by omega)]; rfl

def label.Right.ps : List PS := [.t .str]
def label.Right.G (x : ByteArray × Unit) (J : List AV0 → Prop) : Prop := label.Right x.1 (fun r0 => J [.tv .bool r0])
def label.Right.F : List AV0 → (List AV0 → Prop) → Prop := byPs label.Right.ps label.Right.G
theorem label.Right.good : Go.Iv.Good Tryd.prog 10 label.Right.F where
  fn := ⟨_, Tryd.func10, by kernel_rfl, by kernel_rfl⟩
  det := by
    intro args J hF
    unfold label.Right.F byPs at hF
    split at hF
    · rename_i x hx
      obtain ⟨s1, u⟩ := x
      have ha : args = [.tv .str s1] := psRd_out hx
      have hJ : J [.tv .bool (rightB s1)] := hF
      refine ⟨_, hJ, ?_⟩
      rintro args' J' ⟨rfl, hJ'⟩ w ok vals glo hok hlen hvals
      subst ha
      obtain ⟨v1, hv1, hr1⟩ := hvals 0 _ rfl
      obtain rfl : v1 = .string s1 := RepV.str (hr1 [] (fun _ => undef))
      have hvs : vals.toArray = #[.string s1] := by
        match vals, hlen, hv1 with
        | [_], _, hv1 => cases hv1; rfl
      rw [hvs]
      refine (right_calls s1 w).mono ?_
      rintro e W' ⟨rfl, hb⟩
      refine ⟨_, [.bool (rightB s1)], _, fun _ => False, hJ', rfl, hb, rfl, rfl, fun b hb => hb.elim, ?_, ?_⟩
      · intro i x hx
        match i, hx with
        | 0, hx => cases hx; exact ⟨_, rfl, fun hp m => ⟨[_], rfl, by simp [Ty.isAgg]⟩⟩
      · intro i e t xs u hx hu
        match i, hx with
        | 0, hx => cases hx
    · exact hF.elim
def rowL : List (Nat × RowF × Nat) := []
theorem rows : AllC (fun p => RowOK Tryd.prog p.1 p.2.1 p.2.2) rowL := trivial
end Go.Iw
