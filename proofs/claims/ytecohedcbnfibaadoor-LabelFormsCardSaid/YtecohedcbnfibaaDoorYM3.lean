/- Plain specifications: the journal, step by step. -/
import Derived.Test.YtecohedcbnfibaaDoorYM2
namespace Go.Iw
open Go.Iv
set_option linter.unusedVariables false
set_option linter.unusedSimpArgs false
set_option maxRecDepth 100000

abbrev keepA (w : List write) (s : List (List Int)) : List (List Int) := keepB (fun _ => true) 0 w s
def padS (p : List Int) : List Int := cpy p (List.replicate 64 0)
theorem padS_len (p : List Int) : (padS p).length = 64 := by unfold padS; rw [cpy_len, List.length_replicate]
theorem padS_byt {p : List Int} (h : Byt p) : Byt (padS p) := cpy_byt h (Byt.zeros _)
theorem padS_full {p : List Int} (h : p.length = 64) : padS p = p := cpy_full (by rw [h, List.length_replicate])
theorem padS_pad (p : List Int) : padS (padS p) = padS p := padS_full (padS_len p)
def On (d d' : DiskH) : Prop := dOff d' = false ∧ (dLeft d = -1 → dLeft d' = -1)
theorem On.trans {a b c : DiskH} (h : On a b) (k : On b c) : On a c := ⟨k.1, fun e => k.2 (h.2 e)⟩
theorem On.refl {a : DiskH} (h : dOff a = false) : On a a := ⟨h, id⟩
theorem act_cases (d : DiskH) (h : dOff d = false) : ((actD d).1 = true ∧ On d (actD d).2) ∨ ((actD d).1 = false ∧ dOff (actD d).2 = true ∧ dLeft d ≠ -1) := by
  unfold actD
  rw [h]
  by_cases hl : dLeft d = 0
  · right
    have e : (dLeft d == 0) = true := by rw [hl]; rfl
    rw [e]
    exact ⟨rfl, rfl, by rw [hl]; decide⟩
  · left
    have e : (dLeft d == 0) = false := by simpa using hl
    rw [e]
    refine ⟨rfl, rfl, fun e2 => ?_⟩
    show maxInt (IntKind.wrap .i64 (dLeft d - 1)) (-1) = -1
    rw [e2]; rfl
theorem actD_off (d : DiskH) (h : dOff d = true) : actD d = (false, d) := by unfold actD; rw [h]; rfl
theorem wr_step {at_ : Nat} {p : List Int} {d : DiskH} {s : List (List Int)} {w : List write} {K : Int → List (List Int) → List write → DiskH → Prop}
    (hat : at_ < s.length) (hp : p.length ≤ 64) (hw : w.length < 1000000) (hoff : dOff d = false)
    (hok : ∀ d', On d d' → K 0 s (w ++ [((at_ : Int), (padS p, ()))]) d')
    (hno : dLeft d ≠ -1 → ∀ d', dOff d' = true → K 9 s (w ++ [((at_ : Int), (padS p, ()))]) d') : disk.Disk_Write (at_ : Int) p d s w K := by
  refine Disk_Write_s hat hp hw ?_
  rw [hoff, cond_false]
  rcases act_cases d hoff with ⟨e, h⟩ | ⟨e, h, hl⟩
  · rw [e]; exact hok _ h
  · rw [e]; exact hno hl _ h
theorem fl_step {d : DiskH} {s : List (List Int)} {w : List write} {K : Int → List (List Int) → List write → DiskH → Prop} (hw : w.length < 1000000) (hr : InR s.length w) (hoff : dOff d = false)
    (hok : ∀ d', On d d' → K 0 (keepA w s) [] d') (hno : dLeft d ≠ -1 → ∀ d', dOff d' = true → K 9 s w d') : disk.Disk_Flush d s w K := by
  refine Disk_Flush_s hw hr ?_
  rcases act_cases d hoff with ⟨e, h⟩ | ⟨e, h, hl⟩
  · rw [e]; exact hok _ h
  · rw [e]; exact hno hl _ h
theorem wr_off {at_ : Nat} {p : List Int} {d : DiskH} {s : List (List Int)} {w : List write} {K : Int → List (List Int) → List write → DiskH → Prop}
    (hat : at_ < s.length) (hp : p.length ≤ 64) (hw : w.length < 1000000) (hoff : dOff d = true) (h : K 9 s w d) : disk.Disk_Write (at_ : Int) p d s w K := by
  refine Disk_Write_s hat hp hw ?_
  rw [hoff, cond_true, actD_off d hoff]
  exact h

theorem wrap_nat (n : Nat) (h : n < 9223372036854775808) : IntKind.wrap .i64 (n : Int) = (n : Int) := wrap_i64_nat n h
theorem ite_ne0 : ((9 : Int) != (0 : Int)) = true := rfl
theorem ite_eq0 : ((0 : Int) != (0 : Int)) = false := rfl

/-! What is laid, and what is written. -/
def layE (nx : Int) (l : List Page) (k : Nat) : write := if k = 2 * l.length then ((0 : Int), (padS (fourS nx ++ fourS ((l.length : Nat) : Int)), ())) else
  (((1 + k : Nat) : Int), (padS ((fourS nx ++ fourS (l.getD (k / 2) Page.z).1) ++ (if k % 2 = 0 then (padS (l.getD (k / 2) Page.z).2.1).take 32 else (padS (l.getD (k / 2) Page.z).2.1).drop 32)), ()))
def layA (nx : Int) (l : List Page) : List write := (List.range (2 * l.length + 1)).map (layE nx l)
def wsP (l : List Page) : List write := l.map fun x => ((49 : Int) + x.1, (padS x.2.1, ()))
theorem layA_len (nx : Int) (l : List Page) : (layA nx l).length = 2 * l.length + 1 := by unfold layA; rw [List.length_map, List.length_range]
theorem layA_get (nx : Int) (l : List Page) (k : Nat) (h : k < (layA nx l).length) : (layA nx l)[k] = layE nx l k := by
  simp [layA]
theorem take_next {α : Type} {A : List α} {k : Nat} (h : k < A.length) : A.take k ++ [A[k]] = A.take (k + 1) := by
  rw [List.take_succ_eq_append_getElem h]
theorem layA_in (nx : Int) (l : List Page) (hl : l.length ≤ 24) (n : Nat) (hn : 49 ≤ n) : InR n (layA nx l) := fun x hx => by
  unfold layA at hx
  obtain ⟨k, hk, rfl⟩ := List.mem_map.1 hx
  rw [List.mem_range] at hk
  unfold layE
  split
  · exact ⟨Int.le_refl _, by show (0 : Int) < _; omega⟩
  · exact ⟨by show (0 : Int) ≤ ((1 + k : Nat) : Int); omega, by show ((1 + k : Nat) : Int) < _; omega⟩
theorem wsP_in {l : List Page} {n : Nat} (h : ∀ x ∈ l, 0 ≤ x.1 ∧ x.1 < (n : Int) - 49) : InR n (wsP l) := fun y hy => by
  unfold wsP at hy
  obtain ⟨x, hx, rfl⟩ := List.mem_map.1 hy
  have := h x hx
  exact ⟨by show 0 ≤ (49 : Int) + x.1; omega, by show (49 : Int) + x.1 < _; omega⟩
theorem wsP_len (l : List Page) : (wsP l).length = l.length := by unfold wsP; rw [List.length_map]

theorem half0 (p : List Int) : List.drop (Int.toNat (0 : Int)) (List.take (Int.toNat (32 : Int)) (cpy p (List.replicate (Int.toNat (64 : Int)) (0 : Int)))) = (padS p).take 32 := rfl
theorem half1 (p : List Int) : List.drop (Int.toNat (32 : Int)) (List.take (Int.toNat (((List.length (cpy p (List.replicate (Int.toNat (64 : Int)) (0 : Int)))) : Nat) : Int)) (cpy p (List.replicate (Int.toNat (64 : Int)) (0 : Int)))) = (padS p).drop 32 := by
  show List.drop 32 (List.take (Int.toNat (((padS p).length : Nat) : Int)) (padS p)) = _
  rw [Int.toNat_natCast, List.take_length]

theorem lay_inner (l : List Page) (s : List (List Int)) (nx : Int) (hl : l.length ≤ 24) (hs : 50 ≤ s.length) (d0 : DiskH)
    (K0 : Int → (List (List Int)) → (List write) → DiskH → JournalH → Prop) (K1 : (List Page) → (List Page) → Int → Int → JournalH → DiskH → (List (List Int)) → (List write) → Prop) (i : Nat) (hi : i < l.length)
    (h1 : ∀ d, On d0 d → K1 l l ((l.length : Nat) : Int) (i : Int) ((), nx, ()) d s ((layA nx l).take (2 * i + 2)))
    (h9 : dLeft d0 ≠ -1 → ∀ k d', k ≤ (layA nx l).length → dOff d' = true → K0 9 s ((layA nx l).take k) d' ((), nx, ())) :
    ∀ (m b : Nat) (d : DiskH), b + m = 2 → On d0 d →
      journal.Journal_lay.l7 K0 K1 (m + 1) l (i : Int) l ((l.length : Nat) : Int) (i : Int) [(padS (l.getD i Page.z).2.1).take 32, (padS (l.getD i Page.z).2.1).drop 32] (b : Int) (l.getD i Page.z) ((), nx, ()) d s ((layA nx l).take (2 * i + b)) := by
  intro m
  induction m with
  | zero =>
    intro b d hb hd
    have hb2 : b = 2 := by omega
    subst hb2
    unfold journal.Journal_lay.l7
    rw [nlt_int (by decide), br_false]
    exact h1 d hd
  | succ m ih =>
    intro b d hb hd
    rw [journal.Journal_lay.l7]
    rw [lt_int (by omega), br_true]
    refine ⟨⟨by omega, by omega⟩, ?_⟩
    refine check_Four (check_Four ?_)
    have hk : 2 * i + b < (layA nx l).length := by rw [layA_len]; omega
    have hx : ix ([] : List Int) [(padS (l.getD i Page.z).2.1).take 32, (padS (l.getD i Page.z).2.1).drop 32] (b : Int) = (if (2 * i + b) % 2 = 0 then (padS (l.getD i Page.z).2.1).take 32 else (padS (l.getD i Page.z).2.1).drop 32) := by
      have : b = 0 ∨ b = 1 := by omega
      rcases this with rfl | rfl
      · rw [if_pos (by omega)]; rfl
      · rw [if_neg (by omega)]; rfl
    have hlen : (ix ([] : List Int) [(padS (l.getD i Page.z).2.1).take 32, (padS (l.getD i Page.z).2.1).drop 32] (b : Int)).length = 32 := by
      rw [hx]
      split
      · rw [List.length_take, padS_len]; rfl
      · rw [List.length_drop, padS_len]
    have e4 : (fourS ((() : Unit), (nx, (() : Unit))).2.1 ++ fourS (l.getD i Page.z).1).length = 8 := rfl
    refine ⟨⟨by show 4 + 4 ≤ 9223372036854775807; decide, by show (4 + 4) * 1 ≤ 140737488355328; decide⟩, ⟨by rw [hlen, e4]; decide, by rw [hlen, e4]; decide⟩, ?_⟩
    have hdiv : (2 * i + b) / 2 = i := by omega
    have hne : 2 * i + b ≠ 2 * l.length := by omega
    have hE : layE nx l (2 * i + b) = (((1 + (2 * i + b) : Nat) : Int), (padS ((fourS nx ++ fourS (l.getD i Page.z).1) ++ ix ([] : List Int) [(padS (l.getD i Page.z).2.1).take 32, (padS (l.getD i Page.z).2.1).drop 32] (b : Int)), ())) := by
      rw [hx]
      unfold layE
      rw [if_neg hne, hdiv]
    have e2 : IntKind.wrap .i64 ((IntKind.wrap .i64 ((1 : Int) + (IntKind.wrap .i64 ((2 : Int) * (i : Int))))) + (b : Int)) = ((1 + (2 * i + b) : Nat) : Int) := by
      have a1 : (2 : Int) * (i : Int) = ((2 * i : Nat) : Int) := by omega
      rw [a1, wrap_nat _ (by omega)]
      have a2 : (1 : Int) + ((2 * i : Nat) : Int) = ((1 + 2 * i : Nat) : Int) := by omega
      rw [a2, wrap_nat _ (by omega)]
      have a3 : ((1 + 2 * i : Nat) : Int) + (b : Int) = ((1 + (2 * i + b) : Nat) : Int) := by omega
      rw [a3, wrap_nat _ (by omega)]
    rw [e2]
    refine wr_step (by omega) (by rw [List.length_append, hlen]; show 8 + 32 ≤ 64; decide) (by rw [List.length_take, layA_len]; omega) hd.1 (fun d' hd' => ?_) (fun hl' d' hd' => ?_)
    · rw [ite_eq0, br_false]
      have e3 : (layA nx l).take (2 * i + b) ++ [(((1 + (2 * i + b) : Nat) : Int), (padS ((fourS nx ++ fourS (l.getD i Page.z).1) ++ ix ([] : List Int) [(padS (l.getD i Page.z).2.1).take 32, (padS (l.getD i Page.z).2.1).drop 32] (b : Int)), ()))] = (layA nx l).take (2 * i + (b + 1)) := by
        rw [← hE, ← layA_get nx l _ hk, take_next hk]; rfl
      have e5 : IntKind.wrap .i64 ((b : Int) + 1) = ((b + 1 : Nat) : Int) := wrap_succ b (by omega)
      show journal.Journal_lay.l7 _ _ _ _ _ _ _ _ _ (IntKind.wrap .i64 ((b : Int) + 1)) _ _ _ _ (_ ++ [_])
      rw [e5]
      rw [show (fourS ((() : Unit), (nx, (() : Unit))).2.1) = fourS nx from rfl, e3]
      exact ih (b + 1) d' (by omega) (hd.trans hd')
    · rw [ite_ne0, br_true]
      have e3 : (layA nx l).take (2 * i + b) ++ [(((1 + (2 * i + b) : Nat) : Int), (padS ((fourS nx ++ fourS (l.getD i Page.z).1) ++ ix ([] : List Int) [(padS (l.getD i Page.z).2.1).take 32, (padS (l.getD i Page.z).2.1).drop 32] (b : Int)), ()))] = (layA nx l).take (2 * i + b + 1) := by
        rw [← hE, ← layA_get nx l _ hk, take_next hk]
      rw [show (fourS ((() : Unit), (nx, (() : Unit))).2.1) = fourS nx from rfl, e3]
      exact h9 (fun e => hl' (hd.2 e)) _ d' (by omega) hd'

theorem lay_outer (l : List Page) (s : List (List Int)) (nx : Int) (hl : l.length ≤ 24) (hs : 50 ≤ s.length) (d0 : DiskH)
    (K0 : Int → (List (List Int)) → (List write) → DiskH → JournalH → Prop) (K1 : (List Page) → JournalH → DiskH → (List (List Int)) → (List write) → Prop)
    (h1 : ∀ d, On d0 d → K1 l ((), nx, ()) d s ((layA nx l).take (2 * l.length)))
    (h9 : dLeft d0 ≠ -1 → ∀ k d', k ≤ (layA nx l).length → dOff d' = true → K0 9 s ((layA nx l).take k) d' ((), nx, ())) :
    ∀ (m i : Nat) (d : DiskH), i + m = l.length → On d0 d →
      journal.Journal_lay.l2 K0 K1 (m + 1) l l ((l.length : Nat) : Int) (i : Int) ((), nx, ()) d s ((layA nx l).take (2 * i)) := by
  intro m
  induction m with
  | zero =>
    intro i d hi hd
    have : i = l.length := by omega
    subst this
    unfold journal.Journal_lay.l2
    rw [lt_false (by omega), br_false]
    exact h1 d hd
  | succ m ih =>
    intro i d hi hd
    have hlt : i < l.length := by omega
    rw [journal.Journal_lay.l2]
    rw [lt_true hlt, br_true, half0, half1]
    have ex : ix Page.z l (i : Int) = l.getD i Page.z := by unfold ix; rw [Int.toNat_natCast]
    have e64 : (cpy (ix Page.z l (i : Int)).2.1 (List.replicate (Int.toNat (64 : Int)) (0 : Int))).length = 64 := padS_len _
    refine ⟨⟨by omega, by omega⟩, ⟨by decide, by decide, by decide, by decide⟩, ⟨by decide, by rw [e64]; decide⟩, ⟨by decide, by decide⟩, ⟨by rw [e64]; decide, by rw [e64]; decide⟩, ⟨by decide, by rw [e64]; decide⟩, 3, ?_⟩
    rw [ex]
    refine lay_inner l s nx hl hs d0 K0 _ i hlt (fun d' hd' => ?_) h9 2 0 d rfl hd
    rw [wrap_succ i (by omega)]
    exact ih (i + 1) d' (by omega) hd'

theorem lay_s {l : List Page} {s : List (List Int)} {nx : Int} {d : DiskH} (hl : l.length ≤ 24) (hs : 50 ≤ s.length) (hoff : dOff d = false)
    {K : Int → (List (List Int)) → (List write) → JournalH → DiskH → Prop}
    (h0 : ∀ d', On d d' → K 0 (keepA (layA nx l) s) [] ((), nx, ()) d')
    (h9 : dLeft d ≠ -1 → ∀ k d', k ≤ (layA nx l).length → dOff d' = true → K 9 s ((layA nx l).take k) ((), nx, ()) d') :
    journal.Journal_lay l ((), nx, ()) d s [] K := by
  unfold journal.Journal_lay
  refine ⟨l.length + 1, lay_outer l s nx hl hs d _ _ (fun d1 hd1 => ?_) h9 l.length 0 d (by omega) (On.refl hoff)⟩
  refine check_Four (check_Four ⟨⟨by show 4 + 4 ≤ 9223372036854775807; decide, by show (4 + 4) * 1 ≤ 140737488355328; decide⟩, ?_⟩)
  have hk : 2 * l.length < (layA nx l).length := by rw [layA_len]; omega
  have hE : layE nx l (2 * l.length) = ((0 : Int), (padS (fourS nx ++ fourS ((l.length : Nat) : Int)), ())) := by unfold layE; rw [if_pos rfl]
  have e3 : (layA nx l).take (2 * l.length) ++ [(((0 : Nat) : Int), (padS (fourS nx ++ fourS ((l.length : Nat) : Int)), ()))] = layA nx l := by
    have e4 : (((0 : Nat) : Int), (padS (fourS nx ++ fourS ((l.length : Nat) : Int)), ())) = (layA nx l)[2 * l.length] := by rw [layA_get, hE]; rfl
    rw [e4, take_next hk, List.take_of_length_le (by rw [layA_len]; omega)]
  refine wr_step (at_ := 0) (by omega) (by show 4 + 4 ≤ 64; decide) (by rw [List.length_take, layA_len]; omega) hd1.1 (fun d2 hd2 => ?_) (fun hl' d2 hd2 => ?_)
  · rw [ite_eq0, br_false]
    show disk.Disk_Flush _ _ (_ ++ [_]) _
    rw [e3]
    refine fl_step (by rw [layA_len]; omega) (layA_in nx l hl _ (by omega)) hd2.1 (fun d3 hd3 => h0 _ ((hd1.trans hd2).trans hd3)) (fun hl2 d3 hd3 => ?_)
    have := h9 (fun e => hl2 ((hd1.trans hd2).2 e)) (layA nx l).length d3 (Nat.le_refl _) hd3
    rw [List.take_length] at this
    exact this
  · rw [ite_ne0, br_true]
    show K 9 s (_ ++ [_]) _ _
    rw [e3]
    have := h9 (fun e => hl' (hd1.2 e)) (layA nx l).length d2 (Nat.le_refl _) hd2
    rw [List.take_length] at this
    exact this
theorem lay_off {l : List Page} {s : List (List Int)} {w : List write} {nx : Int} {d : DiskH} (hl : l.length ≤ 24) (hne : l ≠ []) (hs : 50 ≤ s.length) (hw : w.length < 1000000) (hoff : dOff d = true)
    {K : Int → (List (List Int)) → (List write) → JournalH → DiskH → Prop} (h : K 9 s w ((), nx, ()) d) : journal.Journal_lay l ((), nx, ()) d s w K := by
  have hlt : 0 < l.length := List.length_pos_iff.2 hne
  unfold journal.Journal_lay
  refine ⟨2, ?_⟩
  rw [journal.Journal_lay.l2]
  rw [lt_int (by omega), br_true, half0, half1]
  have e64 : (cpy (ix Page.z l (0 : Int)).2.1 (List.replicate (Int.toNat (64 : Int)) (0 : Int))).length = 64 := padS_len _
  refine ⟨⟨by omega, by omega⟩, ⟨by decide, by decide, by decide, by decide⟩, ⟨by decide, by rw [e64]; decide⟩, ⟨by decide, by decide⟩, ⟨by rw [e64]; decide, by rw [e64]; decide⟩, ⟨by decide, by rw [e64]; decide⟩, 2, ?_⟩
  rw [journal.Journal_lay.l7]
  rw [lt_int (by decide), br_true]
  refine ⟨⟨by decide, by decide⟩, check_Four (check_Four ?_)⟩
  have hlen : (ix ([] : List Int) [(padS (ix Page.z l (0 : Int)).2.1).take 32, (padS (ix Page.z l (0 : Int)).2.1).drop 32] (0 : Int)).length = 32 := by
    show ((padS _).take 32).length = 32
    rw [List.length_take, padS_len]; rfl
  have e4 : (fourS ((() : Unit), (nx, (() : Unit))).2.1 ++ fourS (ix Page.z l (0 : Int)).1).length = 8 := rfl
  refine ⟨⟨by show 4 + 4 ≤ 9223372036854775807; decide, by show (4 + 4) * 1 ≤ 140737488355328; decide⟩, ⟨by rw [hlen, e4]; decide, by rw [hlen, e4]; decide⟩, ?_⟩
  show disk.Disk_Write ((1 : Nat) : Int) _ _ _ _ _
  refine wr_off (by omega) (by rw [List.length_append, hlen]; show 8 + 32 ≤ 64; decide) hw hoff ?_
  exact h

theorem apply_loop (l : List Page) (s : List (List Int)) (j : JournalH) (hs : 50 ≤ s.length) (hs2 : s.length < 1000000) (hl : l.length < 100000) (hv : ∀ x ∈ l, 0 ≤ x.1 ∧ x.1 < (s.length : Int) - 49 ∧ x.2.1.length ≤ 64) (d0 : DiskH)
    (K0 : Int → (List (List Int)) → (List write) → DiskH → JournalH → Prop) (K1 : JournalH → DiskH → (List (List Int)) → (List write) → Prop)
    (h1 : ∀ d, On d0 d → K1 j d s (wsP l))
    (h9 : dLeft d0 ≠ -1 → ∀ k d', k ≤ l.length → dOff d' = true → K0 9 s ((wsP l).take k) d' j) :
    ∀ (m i : Nat) (d : DiskH), i + m = l.length → On d0 d → journal.Journal_apply.l2 K0 K1 (m + 1) l ((l.length : Nat) : Int) (i : Int) j d s ((wsP l).take i) := by
  intro m
  induction m with
  | zero =>
    intro i d hi hd
    unfold journal.Journal_apply.l2
    rw [lt_false (by omega), br_false, List.take_of_length_le (by rw [wsP_len]; omega)]
    exact h1 d hd
  | succ m ih =>
    intro i d hi hd
    have hlt : i < l.length := by omega
    have hk : i < (wsP l).length := by rw [wsP_len]; exact hlt
    rw [journal.Journal_apply.l2]
    rw [lt_true hlt, br_true, ix_nat _ _ _ hlt]
    refine ⟨⟨by omega, by omega⟩, ?_⟩
    have hx := hv l[i] (List.getElem_mem hlt)
    obtain ⟨n, hn⟩ := Int.eq_ofNat_of_zero_le hx.1
    have e1 : IntKind.wrap .i64 ((49 : Int) + l[i].1) = ((49 + n : Nat) : Int) := by
      rw [hn]
      have : (49 : Int) + (n : Int) = ((49 + n : Nat) : Int) := by omega
      rw [this, wrap_nat _ (by omega)]
    have hE : (wsP l)[i] = (((49 + n : Nat) : Int), (padS l[i].2.1, ())) := by
      have hg : (wsP l)[i] = ((49 : Int) + l[i].1, (padS l[i].2.1, ())) := by simp [wsP]
      rw [hg, hn]
      have : (49 : Int) + (n : Int) = ((49 + n : Nat) : Int) := by omega
      rw [this]
    rw [e1]
    refine wr_step (by omega) hx.2.2 (by rw [List.length_take, wsP_len]; omega) hd.1 (fun d' hd' => ?_) (fun hl' d' hd' => ?_)
    · rw [ite_eq0, br_false, wrap_succ i (by omega), ← hE, take_next hk]
      exact ih (i + 1) d' (by omega) (hd.trans hd')
    · rw [ite_ne0, br_true, ← hE, take_next hk]
      exact h9 (fun e => hl' (hd.2 e)) _ d' (by omega) hd'
theorem apply_s {l : List Page} {s : List (List Int)} {j : JournalH} {d : DiskH} (hs : 50 ≤ s.length) (hs2 : s.length < 1000000) (hl : l.length < 100000) (hv : ∀ x ∈ l, 0 ≤ x.1 ∧ x.1 < (s.length : Int) - 49 ∧ x.2.1.length ≤ 64) (hoff : dOff d = false)
    {K : Int → (List (List Int)) → (List write) → DiskH → JournalH → Prop}
    (h0 : ∀ d', On d d' → K 0 (keepA (wsP l) s) [] d' j)
    (h9 : dLeft d ≠ -1 → ∀ k d', k ≤ l.length → dOff d' = true → K 9 s ((wsP l).take k) d' j) : journal.Journal_apply l j d s [] (fun r s w j d => K r s w d j) := by
  unfold journal.Journal_apply
  refine ⟨l.length + 1, apply_loop l s j hs hs2 hl hv d _ _ (fun d1 hd1 => ?_) h9 l.length 0 d (by omega) (On.refl hoff)⟩
  refine fl_step (by rw [wsP_len]; omega) (wsP_in fun x hx => ⟨(hv x hx).1, (hv x hx).2.1⟩) hd1.1 (fun d2 hd2 => h0 _ (hd1.trans hd2)) (fun hl2 d2 hd2 => ?_)
  have := h9 (fun e => hl2 (hd1.2 e)) (wsP l).length d2 (by rw [wsP_len]; exact Nat.le_refl _) hd2
  rw [List.take_length] at this
  exact this
end Go.Iw
