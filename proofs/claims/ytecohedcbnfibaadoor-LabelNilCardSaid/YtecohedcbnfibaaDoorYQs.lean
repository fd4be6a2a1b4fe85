/- Plain laws, one behind the other. -/
import Derived.Test.YtecohedcbnfibaaDoorYTw
import Derived.Test.YtecohedcbnfibaaDoorKvK
/- Plain laws: the document's example runs; which names may be. -/
namespace Go.Iw
open Go.Iv
set_option linter.unusedVariables false
set_option linter.unusedSimpArgs false
set_option maxRecDepth 1000000

@[simp] theorem br_true (X Y : Prop) : br true X Y = X := rfl
@[simp] theorem br_false (X Y : Prop) : br false X Y = Y := rfl
theorem wrap_small {n : Int} (h1 : -9223372036854775808 ≤ n) (h2 : n ≤ 9223372036854775807) : IntKind.wrap .i64 n = n := by
  rw [IntKind.wrap_i64]; omega
theorem wrap_small_u8 {n : Int} (h1 : 0 ≤ n) (h2 : n ≤ 255) : IntKind.wrap .u8 n = n := by
  rw [IntKind.wrap_u8]; omega
theorem wrap_succ (i : Nat) (h : i < 9223372036854775807) : IntKind.wrap .i64 ((i : Int) + 1) = ((i + 1 : Nat) : Int) := by
  rw [wrap_small (by omega) (by omega)]; omega
theorem lt_true {i n : Nat} (h : i < n) : decide ((i : Int) < (n : Int)) = true := by simp; omega
theorem lt_false {i n : Nat} (h : n ≤ i) : decide ((i : Int) < (n : Int)) = false := by simp; omega
theorem eqT_bool (x y : Bool) : eqT .bool x y = (x == y) := by cases x <;> cases y <;> rfl

theorem awake_runs : law08.awake_b (fun b => b) = true := by kernel_rfl
theorem awake_law (K : Bool → Prop) (h : K true) : law08.awake K :=
  law08.awake_s (K_b := fun b => b) (fun r hr => by subst hr; exact h) awake_runs

/-- A name's byte, as a number. -/
theorem nameB_int (i : Nat) (b : UInt8) : nameB i b = ((decide (((b.toNat : Nat) : Int) ≥ 97) && decide (((b.toNat : Nat) : Int) ≤ 122)) || (decide ((i : Int) > 0) && ((decide (((b.toNat : Nat) : Int) ≥ 48) && decide (((b.toNat : Nat) : Int) ≤ 57)) || (((b.toNat : Nat) : Int) == 46)))) := by
  have e46 : (b == 46) = (((b.toNat : Nat) : Int) == 46) := by
    rw [Bool.eq_iff_iff, beq_iff_eq, beq_iff_eq]
    constructor
    · intro h; rw [h]; rfl
    · intro h; exact UInt8.toNat_inj.1 (by have : (46 : UInt8).toNat = 46 := rfl; omega)
  have ge (k : UInt8) : decide (k ≤ b) = decide (((b.toNat : Nat) : Int) ≥ (k.toNat : Int)) := by
    rw [Bool.eq_iff_iff, decide_eq_true_iff, decide_eq_true_iff, UInt8.le_iff_toNat_le]; omega
  have le (k : UInt8) : decide (b ≤ k) = decide (((b.toNat : Nat) : Int) ≤ (k.toNat : Int)) := by
    rw [Bool.eq_iff_iff, decide_eq_true_iff, decide_eq_true_iff, UInt8.le_iff_toNat_le]; omega
  have h0 : (i != 0) = decide ((i : Int) > 0) := by
    rw [Bool.eq_iff_iff, bne_iff_ne, decide_eq_true_iff]; omega
  unfold nameB
  rw [e46, ge, ge, le, le, h0]
  rfl

theorem right_loop (s : ByteArray) (K : Bool → Prop) (hs : s.size < 9223372036854775807) : ∀ (m i : Nat) (ok : Bool), i + m = s.size → K (ok && nameL i (s.data.toList.drop i)) → law08.right.l3 K (m + 1) s ok (i : Int) := by
  intro m
  induction m with
  | zero =>
    intro i ok hi h
    have e : s.data.toList.drop i = [] := List.drop_eq_nil_of_le (by have : s.data.toList.length = s.size := Array.length_toList
                                                                     omega)
    rw [e] at h
    unfold law08.right.l3
    rw [lt_false (by omega), br_false]
    simpa [nameL] using h
  | succ m ih =>
    intro i ok hi h
    have hl : s.data.toList.length = s.size := Array.length_toList
    have hlt : i < s.data.toList.length := by omega
    have eb : bt s (i : Int) = (((s.data.toList[i]).toNat : Nat) : Int) := by
      unfold bt
      rw [Int.toNat_natCast, List.getD_eq_getElem?_getD, List.getElem?_eq_getElem hlt]; rfl
    rw [List.drop_eq_getElem_cons hlt] at h
    have h' : K (ok && (nameB i s.data.toList[i] && nameL (i + 1) (s.data.toList.drop (i + 1)))) := h
    have ih' : ∀ ok', K (ok' && nameL (i + 1) (s.data.toList.drop (i + 1))) → law08.right.l3 K (m + 1) s ok' (IntKind.wrap .i64 ((i : Int) + 1)) := by
      intro ok' hk
      rw [wrap_succ i (by omega)]
      exact ih (i + 1) ok' (by omega) hk
    rw [law08.right.l3]
    rw [lt_true (by omega), br_true]
    refine ⟨⟨by omega, by omega⟩, ?_⟩
    cases ok with
    | false => rw [br_false]; exact ih' _ (by simpa using h')
    | true =>
      rw [br_true, eb]
      rw [nameB_int] at h'
      generalize decide ((((s.data.toList[i]).toNat : Nat) : Int) ≥ 97) = c1 at h' ⊢
      generalize decide ((((s.data.toList[i]).toNat : Nat) : Int) ≤ 122) = c2 at h' ⊢
      generalize decide ((((s.data.toList[i]).toNat : Nat) : Int) ≥ 48) = c3 at h' ⊢
      generalize decide ((((s.data.toList[i]).toNat : Nat) : Int) ≤ 57) = c4 at h' ⊢
      generalize decide ((i : Int) > 0) = c5 at h' ⊢
      generalize ((((s.data.toList[i]).toNat : Nat) : Int) == 46) = c6 at h' ⊢
      cases c1 <;> cases c2 <;> cases c5 <;> cases c3 <;> cases c4 <;> simp only [br_true, br_false] <;> exact ih' _ (by simpa using h')

theorem right_law (s : ByteArray) (K : Bool → Prop) (hs : s.size < 9223372036854775807) (h : K (rightB s)) : law08.right s K := by
  have hl : s.data.toList.length = s.size := Array.length_toList
  have hn : (ByteArray.toList s == ByteArray.toList noStr) = (s.size == 0) := by
    rw [ByteArray.toList_eq, ByteArray.toList_eq, Bool.eq_iff_iff, beq_iff_eq, beq_iff_eq]
    constructor
    · intro h; rw [← hl, h]; rfl
    · intro h; have : s.data.toList = [] := List.eq_nil_of_length_eq_zero (by omega)
      rw [this]
  have hb : Nat.ble s.size 12 = decide (((s.size : Nat) : Int) ≤ 12) := by
    rw [Bool.eq_iff_iff, Nat.ble_eq, decide_eq_true_iff]; omega
  unfold law08.right law08.right.j4
  unfold rightB at h
  rw [hb] at h
  rw [hn]
  have go := fun ok hk => right_loop s K hs s.size 0 ok (by omega) hk
  cases hz : s.size == 0 with
  | true =>
    rw [Bool.not_true, br_false]
    refine ⟨s.size + 1, go false ?_⟩
    have : (s.size != 0) = false := by simpa using hz
    rw [this] at h
    simpa using h
  | false =>
    rw [Bool.not_false, br_true]
    refine ⟨s.size + 1, go _ ?_⟩
    have : (s.size != 0) = true := by simpa using hz
    rw [this] at h
    simpa [Bool.and_comm] using h

/-- THE STATEMENT: which names may be. -/
theorem labelRights (by_ : TypeId → Nat) (s : ByteArray) (hs : Wf by_ .str s) (K : Bool → Prop) (h : K true) : law08.LabelRights s K := by
  refine awake_law _ ?_
  rw [br_true]
  refine right_law s _ (Nat.lt_of_le_of_lt hs (by decide)) ?_
  rw [eqT_bool, beq_self_eq_true]
  exact h
end Go.Iw
/- Plain laws: a nil table; disks that are too small. -/
namespace Go.Iw
open Go.Iv
set_option linter.unusedVariables false
set_option maxRecDepth 1000000
set_option maxHeartbeats 4000000

def nilT (m : Nat) : Bool := disk.New_b (IntKind.wrap .i64 (50 + IntKind.wrap .i64 (m : Int))) fun a b c => journal.Open_b a b c (fun _ o7 o9 d j => label.Open_b j d o7 o9 (fun _ _ _ _ _ _ => false) (fun r _ _ _ _ => r == 1)) (fun _ _ _ _ => true)
theorem nil_runs0 : ((List.range 6).map (· + 0)).all nilT = true := by kernel_rfl
theorem nil_runs1 : ((List.range 6).map (· + 6)).all nilT = true := by kernel_rfl
theorem nil_runs2 : ((List.range 6).map (· + 12)).all nilT = true := by kernel_rfl
theorem nil_runs3 : ((List.range 6).map (· + 18)).all nilT = true := by kernel_rfl
theorem nil_runs4 : ((List.range 6).map (· + 24)).all nilT = true := by kernel_rfl
theorem nil_runs5 : ((List.range 6).map (· + 30)).all nilT = true := by kernel_rfl
theorem nil_runs6 : ((List.range 6).map (· + 36)).all nilT = true := by kernel_rfl
theorem nil_runs7 : ((List.range 6).map (· + 42)).all nilT = true := by kernel_rfl
theorem nil_runs8 : ((List.range 6).map (· + 48)).all nilT = true := by kernel_rfl
theorem nil_runs9 : ((List.range 6).map (· + 54)).all nilT = true := by kernel_rfl
theorem nil_runs (m : Nat) (hm : m < 60) : nilT m = true := by
  have go (k : Nat) (h : ((List.range 6).map (· + k)).all nilT = true) (h1 : k ≤ m) (h2 : m < k + 6) : nilT m = true := List.all_eq_true.1 h m (List.mem_map.2 ⟨m - k, List.mem_range.2 (by omega), by omega⟩)
  by_cases h0 : m < 6
  · exact go _ nil_runs0 (by omega) (by omega)
  by_cases h1 : m < 12
  · exact go _ nil_runs1 (by omega) (by omega)
  by_cases h2 : m < 18
  · exact go _ nil_runs2 (by omega) (by omega)
  by_cases h3 : m < 24
  · exact go _ nil_runs3 (by omega) (by omega)
  by_cases h4 : m < 30
  · exact go _ nil_runs4 (by omega) (by omega)
  by_cases h5 : m < 36
  · exact go _ nil_runs5 (by omega) (by omega)
  by_cases h6 : m < 42
  · exact go _ nil_runs6 (by omega) (by omega)
  by_cases h7 : m < 48
  · exact go _ nil_runs7 (by omega) (by omega)
  by_cases h8 : m < 54
  · exact go _ nil_runs8 (by omega) (by omega)
  by_cases h9 : m < 60
  · exact go _ nil_runs9 (by omega) (by omega)
  omega

/-- THE STATEMENT: a nil table has nothing; disks that are too small. -/
theorem labelNil (by_ : TypeId → Nat) (s : ByteArray) (k : List Int) (n : Int) (hs : Wf by_ .str s) (hk : Wf by_ (.arr 32 (.int .u8)) k) (hn : Wf by_ (.int .u8) n) (K : Bool → Prop) (h : K true) : law08.LabelNil s k n K := by
  have hn' : 0 ≤ n ∧ n ≤ 255 := hn
  obtain ⟨q, rfl⟩ := Int.eq_ofNat_of_zero_le hn'.1
  have e : Int.tmod (q : Int) 60 = ((q % 60 : Nat) : Int) := rfl
  have hb : nilT (q % 60) = true := nil_runs _ (Nat.mod_lt _ (by decide))
  unfold law08.LabelNil
  rw [e]
  refine ⟨by decide, disk.New_s (fun a b c h1 => journal.Open_s (Kz0_b := fun _ o7 o9 d j => label.Open_b j d o7 o9 (fun _ _ _ _ _ _ => false) (fun r _ _ _ _ => r == 1)) (Kz1_b := fun _ _ _ _ => true)
    (fun r o7 o9 d j h2 => label.Open_s (Kz0_b := fun _ _ _ _ _ _ => false) (Kz1_b := fun r _ _ _ _ => r == 1) (fun _ _ _ _ _ _ h3 => Bool.noConfusion h3) (fun r' _ _ _ _ h3 => ?_) j d o7 o9 h2)
    (fun r o7 o9 d _ => ?_) a b c h1) _ hb⟩
  · refine awake_law _ ?_
    have hr : (r' == (1 : Int)) = true := h3
    simp only [hr, br_true]
    exact h
  · refine awake_law _ ?_
    exact h
end Go.Iw
