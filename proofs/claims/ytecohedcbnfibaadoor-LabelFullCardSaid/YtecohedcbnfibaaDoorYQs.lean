/- Plain laws, one behind the other. -/
import Derived.Test.YtecohedcbnfibaaDoorYTw
import Derived.Test.YtecohedcbnfibaaDoorKvK
/- Plain laws: the document's example runs; which names may be. -/
namespace Go.Iw
open Go.Iv
set_option linter.unusedVariables false
set_option linter.unusedSimpArgs false
set_option maxRecDepth 1000000

@[simp] theorem br_true (X Y : Prop) : br true X Y = X := rfl
@[simp] theorem br_false (X Y : Prop) : br false X Y = Y := rfl
theorem wrap_small {n : Int} (h1 : -9223372036854775808 ≤ n) (h2 : n ≤ 9223372036854775807) : IntKind.wrap .i64 n = n := by
  rw [IntKind.wrap_i64]; omega
theorem wrap_small_u8 {n : Int} (h1 : 0 ≤ n) (h2 : n ≤ 255) : IntKind.wrap .u8 n = n := by
  rw [IntKind.wrap_u8]; omega
theorem wrap_succ (i : Nat) (h : i < 9223372036854775807) : IntKind.wrap .i64 ((i : Int) + 1) = ((i + 1 : Nat) : Int) := by
  rw [wrap_small (by omega) (by omega)]; omega
theorem lt_true {i n : Nat} (h : i < n) : decide ((i : Int) < (n : Int)) = true := by simp; omega
theorem lt_false {i n : Nat} (h : n ≤ i) : decide ((i : Int) < (n : Int)) = false := by simp; omega
theorem eqT_bool (x y : Bool) : eqT .bool x y = (x == y) := by cases x <;> cases y <;> rfl

theorem awake_runs : law08.awake_b (fun b => b) = true := by kernel_rfl
theorem awake_law (K : Bool → Prop) (h : K true) : law08.awake K :=
  law08.awake_s (K_b := fun b => b) (fun r hr => by subst hr; exact h) awake_runs

/-- A name's byte, as a number. -/
theorem nameB_int (i : Nat) (b : UInt8) : nameB i b = ((decide (((b.toNat : Nat) : Int) ≥ 97) && decide (((b.toNat : Nat) : Int) ≤ 122)) || (decide ((i : Int) > 0) && ((decide (((b.toNat : Nat) : Int) ≥ 48) && decide (((b.toNat : Nat) : Int) ≤ 57)) || (((b.toNat : Nat) : Int) == 46)))) := by
  have e46 : (b == 46) = (((b.toNat : Nat) : Int) == 46) := by
    rw [Bool.eq_iff_iff, beq_iff_eq, beq_iff_eq]
    constructor
    · intro h; rw [h]; rfl
    · intro h; exact UInt8.toNat_inj.1 (by have : (46 : UInt8).toNat = 46 := rfl; omega)
  have ge (k : UInt8) : decide (k ≤ b) = decide (((b.toNat : Nat) : Int) ≥ (k.toNat : Int)) := by
    rw [Bool.eq_iff_iff, decide_eq_true_iff, decide_eq_true_iff, UInt8.le_iff_toNat_le]; omega
  have le (k : UInt8) : decide (b ≤ k) = decide (((b.toNat : Nat) : Int) ≤ (k.toNat : Int)) := by
    rw [Bool.eq_iff_iff, decide_eq_true_iff, decide_eq_true_iff, UInt8.le_iff_toNat_le]; omega
  have h0 : (i != 0) = decide ((i : Int) > 0) := by
    rw [Bool.eq_iff_iff, bne_iff_ne, decide_eq_true_iff]; omega
  unfold nameB
  rw [e46, ge, ge, le, le, h0]
  rfl

theorem right_loop (s : ByteArray) (K : Bool → Prop) (hs : s.size < 9223372036854775807) : ∀ (m i : Nat) (ok : Bool), i + m = s.size → K (ok && nameL i (s.data.toList.drop i)) → law08.right.l3 K (m + 1) s ok (i : Int) := by
  intro m
  induction m with
  | zero =>
    intro i ok hi h
    have e : s.data.toList.drop i = [] := List.drop_eq_nil_of_le (by have : s.data.toList.length = s.size := Array.length_toList
                                                                     omega)
    rw [e] at h
    unfold law08.right.l3
    rw [lt_false (by omega), br_false]
    simpa [nameL] using h
  | succ m ih =>
    intro i ok hi h
    have hl : s.data.toList.length = s.size := Array.length_toList
    have hlt : i < s.data.toList.length := by omega
    have eb : bt s (i : Int) = (((s.data.toList[i]).toNat : Nat) : Int) := by
      unfold bt
      rw [Int.toNat_natCast, List.getD_eq_getElem?_getD, List.getElem?_eq_getElem hlt]; rfl
    rw [List.drop_eq_getElem_cons hlt] at h
    have h' : K (ok && (nameB i s.data.toList[i] && nameL (i + 1) (s.data.toList.drop (i + 1)))) := h
    have ih' : ∀ ok', K (ok' && nameL (i + 1) (s.data.toList.drop (i + 1))) → law08.right.l3 K (m + 1) s ok' (IntKind.wrap .i64 ((i : Int) + 1)) := by
      intro ok' hk
      rw [wrap_succ i (by omega)]
      exact ih (i + 1) ok' (by omega) hk
    rw [law08.right.l3]
    rw [lt_true (by omega), br_true]
    refine ⟨⟨by omega, by omega⟩, ?_⟩
    cases ok with
    | false => rw [br_false]; exact ih' _ (by simpa using h')
    | true =>
      rw [br_true, eb]
      rw [nameB_int] at h'
      generalize decide ((((s.data.toList[i]).toNat : Nat) : Int) ≥ 97) = c1 at h' ⊢
      generalize decide ((((s.data.toList[i]).toNat : Nat) : Int) ≤ 122) = c2 at h' ⊢
      generalize decide ((((s.data.toList[i]).toNat : Nat) : Int) ≥ 48) = c3 at h' ⊢
      generalize decide ((((s.data.toList[i]).toNat : Nat) : Int) ≤ 57) = c4 at h' ⊢
      generalize decide ((i : Int) > 0) = c5 at h' ⊢
      generalize ((((s.data.toList[i]).toNat : Nat) : Int) == 46) = c6 at h' ⊢
      cases c1 <;> cases c2 <;> cases c5 <;> cases c3 <;> cases c4 <;> simp only [br_true, br_false] <;> exact ih' _ (by simpa using h')

theorem right_law (s : ByteArray) (K : Bool → Prop) (hs : s.size < 9223372036854775807) (h : K (rightB s)) : law08.right s K := by
  have hl : s.data.toList.length = s.size := Array.length_toList
  have hn : (ByteArray.toList s == ByteArray.toList noStr) = (s.size == 0) := by
    rw [ByteArray.toList_eq, ByteArray.toList_eq, Bool.eq_iff_iff, beq_iff_eq, beq_iff_eq]
    constructor
    · intro h; rw [← hl, h]; rfl
    · intro h; have : s.data.toList = [] := List.eq_nil_of_length_eq_zero (by omega)
      rw [this]
  have hb : Nat.ble s.size 12 = decide (((s.size : Nat) : Int) ≤ 12) := by
    rw [Bool.eq_iff_iff, Nat.ble_eq, decide_eq_true_iff]; omega
  unfold law08.right law08.right.j4
  unfold rightB at h
  rw [hb] at h
  rw [hn]
  have go := fun ok hk => right_loop s K hs s.size 0 ok (by omega) hk
  cases hz : s.size == 0 with
  | true =>
    rw [Bool.not_true, br_false]
    refine ⟨s.size + 1, go false ?_⟩
    have : (s.size != 0) = false := by simpa using hz
    rw [this] at h
    simpa using h
  | false =>
    rw [Bool.not_false, br_true]
    refine ⟨s.size + 1, go _ ?_⟩
    have : (s.size != 0) = true := by simpa using hz
    rw [this] at h
    simpa [Bool.and_comm] using h

/-- THE STATEMENT: which names may be. -/
theorem labelRights (by_ : TypeId → Nat) (s : ByteArray) (hs : Wf by_ .str s) (K : Bool → Prop) (h : K true) : law08.LabelRights s K := by
  refine awake_law _ ?_
  rw [br_true]
  refine right_law s _ (Nat.lt_of_le_of_lt hs (by decide)) ?_
  rw [eqT_bool, beq_self_eq_true]
  exact h
end Go.Iw
/- Plain laws: as many refs as may be. -/
namespace Go.Iw
open Go.Iv
set_option linter.unusedVariables false
set_option maxRecDepth 1000000
set_option maxHeartbeats 4000000

theorem full_j18 {K0 : Bool → Prop} {K1 : Int → Int → DiskH → TableH → (List (List Int)) → (List write) → JournalH → Prop} {K1_b : Int → Int → DiskH → TableH → (List (List Int)) → (List write) → JournalH → Bool} (a a' : Int)
    (hK1 : ∀ i d t o1 o2 j, K1_b a i d t o1 o2 j = true → K1 a' i d t o1 o2 j) (i6 : Int) (t43 : Bool) (o1 : List (List Int)) (o2 : List write) (t : TableH) (j : JournalH) (d : DiskH)
    (h : law08.LabelFull.j18_b (fun _ => false) K1_b a i6 t43 o1 o2 t j d = true) : law08.LabelFull.j18 K0 K1 a' i6 t43 o1 o2 t j d :=
  br_b (fun h => Bool.noConfusion h) (fun h => hK1 _ d t o1 o2 j h) h
/-- The number is handed on as it came. -/
theorem full_l5 {K0 : Bool → Prop} {K1 : Int → DiskH → TableH → (List (List Int)) → (List write) → JournalH → Prop} {K1_b : Int → DiskH → TableH → (List (List Int)) → (List write) → JournalH → Bool} (a a' : Int)
    (hK1 : ∀ d t o1 o2 j, K1_b a d t o1 o2 j = true → K1 a' d t o1 o2 j) : ∀ (n : Nat) (i : Int) (d : DiskH) (t : TableH) (o1 : List (List Int)) (o2 : List write) (j : JournalH),
    law08.LabelFull.l5_b (fun _ => false) K1_b n a i d t o1 o2 j = true → law08.LabelFull.l5 K0 K1 n a' i d t o1 o2 j
  | 0, _, _, _, _, _, _ => fun h => Bool.noConfusion h
  | n + 1, i, d, t, o1, o2, j => fun h => br_b (fun h => and_b (fun h => label.Table_Make_s (fun r0 o6 o7 t' j' d' h => br_b
      (fun h => full_j18 a a' (fun i' d2 t2 p1 p2 j2 h => full_l5 a a' hK1 n i' d2 t2 p1 p2 j2 h) i true o6 o7 t' j' d' h)
      (fun h => br_b (fun h => full_j18 a a' (fun i' d2 t2 p1 p2 j2 h => full_l5 a a' hK1 n i' d2 t2 p1 p2 j2 h) i (r0 != (4 : Int)) o6 o7 t' j' d' h)
        (fun h => full_j18 a a' (fun i' d2 t2 p1 p2 j2 h => full_l5 a a' hK1 n i' d2 t2 p1 p2 j2 h) i false o6 o7 t' j' d' h) h) h) _ t j d o1 o2 h) h) (fun h => hK1 d t o1 o2 j h) h

def fullName (m : Int) : ByteArray := ByteArray.mk #[110] ++ Go.Iv.bytesOf [IntKind.wrap .u8 (97 + m)]
def full3 (t : TableH) (j : JournalH) (d : DiskH) (o1 : List (List Int)) (o2 : List write) : Bool :=
  label.Table_Move_b (ByteArray.mk #[122]) (List.replicate 32 (0 : Int)) t j d o1 o2 fun r2 o1 o2 t j d => bif r2 == 13 then label.Table_All_b t j d o1 o2 (fun _ _ _ _ _ l => ((List.length l : Nat) : Int) == 12) else false
def full2 (r0 : Int) (t : TableH) (j : JournalH) (d : DiskH) (o1 : List (List Int)) (o2 : List write) : Bool :=
  label.Table_Make_b (ByteArray.mk #[122], (List.replicate 32 (0 : Int), (true, ()))) t j d o1 o2 fun r1 o1 o2 t j d => r0 == 0 && (r1 == 0 && full3 t j d o1 o2)
def full1 (m : Nat) (d : DiskH) (t : TableH) (o1 : List (List Int)) (o2 : List write) (j : JournalH) : Bool :=
  label.Table_Drop_b (fullName (m : Int)) t j d o1 o2 fun r0 o1 o2 t j d => full2 r0 t j d o1 o2
def fullT (m : Nat) : Bool := law08.fresh_b (fun r d t o1 o2 j => r && law08.LabelFull.l5_b (fun _ => false) (fun _ d t o1 o2 j => full1 m d t o1 o2 j) 14 0 0 d t o1 o2 j) (fun _ _ _ _ => false) (fun _ => false)
theorem full_runs0 : fullT 0 = true := by kernel_rfl
theorem full_runs1 : fullT 1 = true := by kernel_rfl
theorem full_runs2 : fullT 2 = true := by kernel_rfl
theorem full_runs3 : fullT 3 = true := by kernel_rfl
theorem full_runs4 : fullT 4 = true := by kernel_rfl
theorem full_runs5 : fullT 5 = true := by kernel_rfl
theorem full_runs6 : fullT 6 = true := by kernel_rfl
theorem full_runs7 : fullT 7 = true := by kernel_rfl
theorem full_runs8 : fullT 8 = true := by kernel_rfl
theorem full_runs9 : fullT 9 = true := by kernel_rfl
theorem full_runs10 : fullT 10 = true := by kernel_rfl
theorem full_runs11 : fullT 11 = true := by kernel_rfl
theorem full_runs (m : Nat) (hm : m < 12) : fullT m = true :=
  match m, hm with
  | 0, _ => full_runs0
  | 1, _ => full_runs1
  | 2, _ => full_runs2
  | 3, _ => full_runs3
  | 4, _ => full_runs4
  | 5, _ => full_runs5
  | 6, _ => full_runs6
  | 7, _ => full_runs7
  | 8, _ => full_runs8
  | 9, _ => full_runs9
  | 10, _ => full_runs10
  | 11, _ => full_runs11
  | n + 12, h => absurd h (by omega)
theorem full_3 {K : Bool → Prop} (h : K true) (t : TableH) (j : JournalH) (d : DiskH) (o1 : List (List Int)) (o2 : List write) (hh : full3 t j d o1 o2 = true) :
    label.Table_Move (ByteArray.mk #[122]) (List.replicate 32 (0 : Int)) t j d o1 o2 (fun r2 o1 o2 t j d => br (r2 == (13 : Int)) (label.Table_All t j d o1 o2 (fun _ _ _ _ _ l => K (((List.length l : Nat) : Int) == 12))) (K false)) :=
  label.Table_Move_s (Kz0_b := fun r2 o1 o2 t j d => bif r2 == 13 then label.Table_All_b t j d o1 o2 (fun _ _ _ _ _ l => ((List.length l : Nat) : Int) == 12) else false)
    (fun r2 o1 o2 t j d hh => br_b (fun hh => label.Table_All_s (Kz0_b := fun _ _ _ _ _ l => ((List.length l : Nat) : Int) == 12) (fun _ _ _ _ _ l hl => by rw [hl]; exact h) t j d o1 o2 hh) (fun h => Bool.noConfusion h) hh) _ _ t j d o1 o2 hh
theorem full_2 {K : Bool → Prop} {X : Int → TableH → JournalH → DiskH → List (List Int) → List write → Prop} (r0 : Int) (hX : ∀ r1 t j d o1 o2, (r0 == (0 : Int)) = true → (r1 == (0 : Int)) = true → full3 t j d o1 o2 = true → X r1 t j d o1 o2) (t : TableH) (j : JournalH) (d : DiskH) (o1 : List (List Int)) (o2 : List write) (hh : full2 r0 t j d o1 o2 = true) :
    label.Table_Make (ByteArray.mk #[122], (List.replicate 32 (0 : Int), (true, ()))) t j d o1 o2 (fun r1 o1 o2 t j d => X r1 t j d o1 o2) :=
  label.Table_Make_s (Kz0_b := fun r1 o1 o2 t j d => r0 == 0 && (r1 == 0 && full3 t j d o1 o2)) (fun r1 o1 o2 t j d hh => by
    obtain ⟨h0, hh⟩ := Bool.and_eq_true_iff.1 hh
    obtain ⟨h1, hh⟩ := Bool.and_eq_true_iff.1 hh
    exact hX r1 t j d o1 o2 h0 h1 hh) _ t j d o1 o2 hh
/-- THE STATEMENT: as many refs as may be, then none more, till one is dropped. -/
theorem labelFull (by_ : TypeId → Nat) (n : Int) (hn : Wf by_ (.int .u8) n) (K : Bool → Prop) (h : K true) : law08.LabelFull n K := by
  have hn' : 0 ≤ n ∧ n ≤ 255 := hn
  obtain ⟨q, rfl⟩ := Int.eq_ofNat_of_zero_le hn'.1
  have e : Int.tmod (q : Int) 12 = ((q % 12 : Nat) : Int) := rfl
  have hsz : ByteArray.size (ByteArray.mk #[110]) + ByteArray.size (Go.Iv.bytesOf [IntKind.wrap .u8 (97 + ((q % 12 : Nat) : Int))]) ≤ 9223372036854775807 := by
    generalize IntKind.wrap .u8 (97 + ((q % 12 : Nat) : Int)) = c
    have e1 : ByteArray.size (ByteArray.mk #[110]) = 1 := rfl
    have e2 : ByteArray.size (Go.Iv.bytesOf [c]) = 1 := rfl
    omega
  have hT := full_runs (q % 12) (Nat.mod_lt _ (by decide))
  unfold fullT at hT
  unfold law08.LabelFull
  refine law08.fresh_s (Kz0_b := fun r d t o1 o2 j => r && law08.LabelFull.l5_b (fun _ => false) (fun _ d t o1 o2 j => full1 (q % 12) d t o1 o2 j) 14 0 0 d t o1 o2 j) (Kz2_b := fun _ _ _ _ => false) (Kz3_b := fun _ => false) ?_ (fun _ _ _ _ h => Bool.noConfusion h) (fun _ h => Bool.noConfusion h) hT
  intro r d t o1 o2 j hh
  obtain ⟨hr, hh⟩ := Bool.and_eq_true_iff.1 hh
  rw [hr, Bool.not_true, br_false]
  refine ⟨14, full_l5 (K1_b := fun _ d t o1 o2 j => full1 (q % 12) d t o1 o2 j) 0 (q : Int) ?_ 14 0 d t o1 o2 j hh⟩
  intro d t o1 o2 j hh
  simp only [e]
  refine ⟨by decide, hsz, label.Table_Drop_s (Kz0_b := fun r0 o1 o2 t j d => full2 r0 t j d o1 o2) (fun r0 o1 o2 t j d hh => ?_) _ t j d o1 o2 hh⟩
  refine full_2 (K := K) r0 ?_ t j d o1 o2 hh
  intro r1 t j d o1 o2 h0 h1 hh
  refine awake_law _ ?_
  simp only [h0, h1, br_true]
  exact full_3 h t j d o1 o2 hh
end Go.Iw
