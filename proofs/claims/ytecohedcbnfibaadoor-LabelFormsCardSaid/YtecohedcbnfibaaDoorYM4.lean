/- Plain specifications: the journal, read, written, opened. -/
import Derived.Test.YtecohedcbnfibaaDoorYM3
namespace Go.Iw
open Go.Iv
set_option linter.unusedVariables false
set_option linter.unusedSimpArgs false
set_option maxRecDepth 100000

theorem Journal_Sectors_s {x : Journal} {K : Int → Prop} (hs : x.1.1.length < 9223372036854775807) (h : K (((x.1.1.length : Nat) : Int) - 49)) : journal.Journal_Sectors x K := by
  unfold journal.Journal_Sectors
  refine Disk_Sectors_s ?_
  rw [wrap_small (by omega) (by omega)]
  exact h
theorem Journal_Read_on {at_ : Nat} {j : JournalH} {d : DiskH} {s : List (List Int)} {w : List write} {K : List Int → Int → List (List Int) → List write → JournalH → DiskH → Prop}
    (hat : 49 + at_ < s.length) (hs : s.length < 1000000) (hoff : dOff d = false) (hw : w.length < 1000000) (h : K (curS s w (49 + at_)) 0 s w j d) : journal.Journal_Read (at_ : Int) j d s w K := by
  unfold journal.Journal_Read
  rw [nlt_int (by omega), br_false]
  refine Journal_Sectors_s (by show s.length < _; omega) ?_
  show journal.Journal_Read.j4 _ _ (decide ((at_ : Int) ≥ ((s.length : Nat) : Int) - 49)) _ _ _ _
  rw [nge_int (by omega)]
  unfold journal.Journal_Read.j4
  rw [br_false]
  have e1 : IntKind.wrap .i64 ((49 : Int) + (at_ : Int)) = ((49 + at_ : Nat) : Int) := by
    have : (49 : Int) + (at_ : Int) = ((49 + at_ : Nat) : Int) := by omega
    rw [this, wrap_nat _ (by omega)]
  rw [e1]
  exact Disk_Read_on hat hoff (by omega) h
theorem Journal_Read_off {at_ : Nat} {j : JournalH} {d : DiskH} {s : List (List Int)} {w : List write} {K : List Int → Int → List (List Int) → List write → JournalH → DiskH → Prop}
    (hat : 49 + at_ < s.length) (hs : s.length < 1000000) (hoff : dOff d = true) (h : K [] 9 s w j d) : journal.Journal_Read (at_ : Int) j d s w K := by
  unfold journal.Journal_Read
  rw [nlt_int (by omega), br_false]
  refine Journal_Sectors_s (by show s.length < _; omega) ?_
  show journal.Journal_Read.j4 _ _ (decide ((at_ : Int) ≥ ((s.length : Nat) : Int) - 49)) _ _ _ _
  rw [nge_int (by omega)]
  unfold journal.Journal_Read.j4
  rw [br_false]
  have e1 : IntKind.wrap .i64 ((49 : Int) + (at_ : Int)) = ((49 + at_ : Nat) : Int) := by
    have : (49 : Int) + (at_ : Int) = ((49 + at_ : Nat) : Int) := by omega
    rw [this, wrap_nat _ (by omega)]
  rw [e1]
  exact Disk_Read_off hat hoff h

/-! Writing. -/
def Pgs (n : Nat) (l : List Page) : Prop := ∀ x ∈ l, 0 ≤ x.1 ∧ x.1 < (n : Int) - 49 ∧ x.2.1.length ≤ 64
theorem Write_loop (l : List Page) (s : List (List Int)) (w : List write) (j : JournalH) (d : DiskH) (hs2 : s.length < 1000000) (hl : l.length ≤ 24) (hv : Pgs s.length l)
    (K0 : Int → JournalH → DiskH → (List (List Int)) → (List write) → Prop) (K1 : (List Page) → JournalH → DiskH → (List (List Int)) → (List write) → Prop) (h1 : K1 l j d s w) :
    ∀ (m i : Nat), i + m = l.length → journal.Journal_Write.l6 K0 K1 (m + 1) l l ((l.length : Nat) : Int) (i : Int) j d s w := by
  intro m
  induction m with
  | zero =>
    intro i hi
    unfold journal.Journal_Write.l6
    rw [lt_false (by omega), br_false]
    exact h1
  | succ m ih =>
    intro i hi
    have hlt : i < l.length := by omega
    have hx := hv l[i] (List.getElem_mem hlt)
    rw [journal.Journal_Write.l6]
    rw [lt_true hlt, br_true, ix_nat _ _ _ hlt, nlt_int hx.1, br_false]
    refine ⟨⟨by omega, by omega⟩, Journal_Sectors_s (by show s.length < _; omega) ?_⟩
    show br (decide (l[i].1 ≥ ((s.length : Nat) : Int) - 49)) _ _
    rw [nge_int hx.2.1, br_false, ngt_int (by omega)]
    unfold journal.Journal_Write.j18
    rw [br_false, wrap_succ i (by omega)]
    exact ih (i + 1) (by omega)
theorem Journal_Write_s {l : List Page} {s : List (List Int)} {nx : Int} {d : DiskH} (hl : l.length ≤ 24) (hne : l ≠ []) (hs : 50 ≤ s.length) (hs2 : s.length < 1000000) (hv : Pgs s.length l) (hoff : dOff d = false)
    {K : Int → (List (List Int)) → (List write) → JournalH → DiskH → Prop}
    (h0 : ∀ d', On d d' → K 0 (keepA (wsP l) (keepA (layA nx l) s)) [] ((), IntKind.wrap .i64 (nx + 1), ()) d')
    (h9a : dLeft d ≠ -1 → ∀ k d', k ≤ (layA nx l).length → dOff d' = true → K 9 s ((layA nx l).take k) ((), nx, ()) d')
    (h9b : dLeft d ≠ -1 → ∀ k d', k ≤ l.length → dOff d' = true → K 9 (keepA (layA nx l) s) ((wsP l).take k) ((), IntKind.wrap .i64 (nx + 1), ()) d') :
    journal.Journal_Write l ((), nx, ()) d s [] K := by
  unfold journal.Journal_Write
  rw [ngt_int (by omega), br_false]
  refine ⟨l.length + 1, Write_loop l s [] _ d hs2 hl hv _ _ ?_ l.length 0 (by omega)⟩
  have hlt : 0 < l.length := List.length_pos_iff.2 hne
  have e0 : (((l.length : Nat) : Int) == (0 : Int)) = false := by
    rw [Bool.eq_false_iff]; intro e; rw [beq_iff_eq] at e; omega
  rw [e0, br_false]
  refine lay_s hl hs hoff (fun d1 hd1 => ?_) (fun hl' k d1 hk hd1 => ?_)
  · rw [ite_eq0, br_false]
    have hlen : (keepA (layA nx l) s).length = s.length := keepB_len _ _ _ _
    exact apply_s (K := fun r s w d j => K r s w j d) (by rw [hlen]; exact hs) (by rw [hlen]; exact hs2) (by omega) (fun x hx => by rw [hlen]; exact hv x hx) hd1.1 (fun d2 hd2 => h0 d2 (hd1.trans hd2)) (fun hl2 k d2 hk hd2 => h9b (fun e => hl2 (hd1.2 e)) k d2 hk hd2)
  · rw [ite_ne0, br_true]
    exact h9a hl' k d1 hk hd1
theorem Journal_Write_off {l : List Page} {s : List (List Int)} {w : List write} {nx : Int} {d : DiskH} (hl : l.length ≤ 24) (hne : l ≠ []) (hs : 50 ≤ s.length) (hs2 : s.length < 1000000) (hw : w.length < 1000000) (hv : Pgs s.length l) (hoff : dOff d = true)
    {K : Int → (List (List Int)) → (List write) → JournalH → DiskH → Prop} (h : K 9 s w ((), nx, ()) d) : journal.Journal_Write l ((), nx, ()) d s w K := by
  unfold journal.Journal_Write
  rw [ngt_int (by omega), br_false]
  refine ⟨l.length + 1, Write_loop l s w _ d hs2 hl hv _ _ ?_ l.length 0 (by omega)⟩
  have hlt : 0 < l.length := List.length_pos_iff.2 hne
  have e0 : (((l.length : Nat) : Int) == (0 : Int)) = false := by
    rw [Bool.eq_false_iff]; intro e; rw [beq_iff_eq] at e; omega
  rw [e0, br_false]
  refine lay_off hl hne hs hw hoff ?_
  rw [ite_ne0, br_true]
  exact h

/-! Reading what the journal tells. -/
def pgAt (c : List (List Int)) (i : Nat) : Page := (numS ((c.getD (1 + 2 * i) []).drop 4), ((((c.getD (1 + 2 * i) []).take 40).drop 8 ++ ((c.getD (2 + 2 * i) []).take 40).drop 8), ()))
def okAt (c : List (List Int)) (number : Int) (i : Nat) : Bool := numS (c.getD (1 + 2 * i) []) == number && numS (c.getD (2 + 2 * i) []) == number
def readJ (c : List (List Int)) : List Page := if 24 < numS ((c.getD 0 []).drop 4) ∨ numS (c.getD 0 []) = 0 then [] else
  if (List.range (numS ((c.getD 0 []).drop 4)).toNat).all (okAt c (numS (c.getD 0 []))) then (List.range (numS ((c.getD 0 []).drop 4)).toNat).map (pgAt c) else []
theorem getD_take {α : Type} {s : List α} {n i : Nat} (h : i < n) (z : α) : (s.take n).getD i z = s.getD i z := by
  rw [List.getD_eq_getElem?_getD, List.getD_eq_getElem?_getD, List.getElem?_take, if_pos h]
theorem wf_getD {s : List (List Int)} (h : WfS s) {i : Nat} (hi : i < s.length) : (s.getD i []).length = 64 ∧ Byt (s.getD i []) := by
  rw [List.getD_eq_getElem?_getD, List.getElem?_eq_getElem hi]
  exact h _ (List.getElem_mem hi)
theorem read_l3 (s : List (List Int)) (d : DiskH) (hwf : WfS s) (hs : 50 ≤ s.length) (hs2 : s.length < 1000000) (hoff : dOff d = false)
    (K0 : Int → (List Page) → (List (List Int)) → (List write) → DiskH → JournalH → Prop) (K1 : (List (List Int)) → JournalH → DiskH → (List (List Int)) → (List write) → Prop)
    (h1 : ∀ nx : Int, (∀ i, i < 49 → numS (s.getD i []) < nx) → (∀ B : Int, 1 ≤ B → (∀ i, i < 49 → numS (s.getD i []) < B) → nx ≤ B) → K1 (s.take 49) ((), nx, ()) d s []) :
    ∀ (m i : Nat) (nx : Int), i + m = 49 → (∀ k, k < i → numS (s.getD k []) < nx) → (∀ B : Int, 1 ≤ B → (∀ k, k < i → numS (s.getD k []) < B) → nx ≤ B) → journal.Journal_read.l3 K0 K1 (m + 1) (i : Int) (s.take i) ((), nx, ()) d s [] := by
  intro m
  induction m with
  | zero =>
    intro i nx hi ha hb
    have : i = 49 := by omega
    subst this
    unfold journal.Journal_read.l3
    rw [nlt_int (by decide), br_false]
    exact h1 nx ha hb
  | succ m ih =>
    intro i nx hi ha hb
    rw [journal.Journal_read.l3]
    rw [lt_int (by omega), br_true]
    refine Disk_Read_on (by omega) hoff (by decide) ?_
    rw [ite_eq0, br_false]
    have ec : curS s [] i = s.getD i [] := rfl
    rw [ec]
    have hlt : i < s.length := by omega
    have hw := wf_getD hwf hlt
    refine ⟨⟨by rw [List.length_take, List.length_singleton]; omega, by rw [List.length_take, List.length_singleton]; omega⟩, check_Number (by omega) ?_⟩
    have hr := numS_range hw.2 (by omega)
    have e3 : s.take i ++ [s.getD i []] = s.take (i + 1) := by
      rw [List.getD_eq_getElem?_getD, List.getElem?_eq_getElem hlt]
      exact take_next hlt
    have e4 : maxInt nx (IntKind.wrap .i64 (numS (s.getD i []) + 1)) = if numS (s.getD i []) + 1 > nx then numS (s.getD i []) + 1 else nx := by
      rw [wrap_small (by omega) (by omega)]; rfl
    show journal.Journal_read.l3 K0 K1 (m + 1) (IntKind.wrap .i64 ((i : Int) + 1)) (_ ++ [_]) ((), maxInt nx (IntKind.wrap .i64 (numS (s.getD i []) + 1)), ()) d s []
    rw [e3, wrap_succ i (by omega), e4]
    refine ih (i + 1) _ (by omega) (fun k hk => ?_) (fun B h1B hB => ?_)
    · by_cases hki : k = i
      · subst hki; split <;> omega
      · have := ha k (by omega)
        split <;> omega
    · have h2 := hb B h1B (fun k hk => hB k (by omega))
      have h3 := hB i (by omega)
      split <;> omega
theorem read_l16 (c s : List (List Int)) (w : List write) (j : JournalH) (d : DiskH) (hc : c.length = 49) (hwf : WfS c) (number : Int) (n : Nat) (hn : n ≤ 24)
    (K0 : Int → (List Page) → JournalH → DiskH → (List (List Int)) → (List write) → Prop) (K1 : (List Page) → JournalH → DiskH → (List (List Int)) → (List write) → Prop)
    (h0 : (List.range n).all (okAt c number) = false → K0 0 [] j d s w) (h1 : (List.range n).all (okAt c number) = true → K1 ((List.range n).map (pgAt c)) j d s w) :
    ∀ (m i : Nat), i + m = n → (∀ k, k < i → okAt c number k = true) → journal.Journal_read.l16 K0 K1 (m + 1) number (n : Int) (i : Int) c ((List.range i).map (pgAt c)) j d s w := by
  intro m
  induction m with
  | zero =>
    intro i hi ha
    have : i = n := by omega
    subst this
    unfold journal.Journal_read.l16
    rw [lt_false (by omega), br_false]
    exact h1 (List.all_eq_true.2 fun k hk => ha k (List.mem_range.1 hk))
  | succ m ih =>
    intro i hi ha
    rw [journal.Journal_read.l16]
    rw [lt_true (by omega), br_true]
    have ea : IntKind.wrap .i64 ((1 : Int) + (IntKind.wrap .i64 ((2 : Int) * (i : Int)))) = ((1 + 2 * i : Nat) : Int) := by
      have a1 : (2 : Int) * (i : Int) = ((2 * i : Nat) : Int) := by omega
      rw [a1, wrap_nat _ (by omega)]
      have a2 : (1 : Int) + ((2 * i : Nat) : Int) = ((1 + 2 * i : Nat) : Int) := by omega
      rw [a2, wrap_nat _ (by omega)]
    have eb : IntKind.wrap .i64 ((2 : Int) + (IntKind.wrap .i64 ((2 : Int) * (i : Int)))) = ((2 + 2 * i : Nat) : Int) := by
      have a1 : (2 : Int) * (i : Int) = ((2 * i : Nat) : Int) := by omega
      rw [a1, wrap_nat _ (by omega)]
      have a2 : (2 : Int) + ((2 * i : Nat) : Int) = ((2 + 2 * i : Nat) : Int) := by omega
      rw [a2, wrap_nat _ (by omega)]
    have la : 1 + 2 * i < c.length := by omega
    have lb : 2 + 2 * i < c.length := by omega
    have ga : ixN ([] : List Int) c (Int.toNat ((1 + 2 * i : Nat) : Int)) = c.getD (1 + 2 * i) [] := by unfold ixN; rw [Int.toNat_natCast]
    have gb : ixN ([] : List Int) c (Int.toNat ((2 + 2 * i : Nat) : Int)) = c.getD (2 + 2 * i) [] := by unfold ixN; rw [Int.toNat_natCast]
    have wa := wf_getD hwf la
    have wb := wf_getD hwf lb
    rw [ea, eb, ga, gb]
    refine ⟨⟨by omega, by omega⟩, by rw [Int.toNat_natCast]; exact la, ⟨by omega, by omega⟩, by rw [Int.toNat_natCast]; exact lb, check_Number (by omega) ?_⟩
    have bad : okAt c number i = false → (List.range n).all (okAt c number) = false := fun h => by
      rw [Bool.eq_false_iff]
      intro e
      rw [List.all_eq_true.1 e i (List.mem_range.2 (by omega))] at h
      cases h
    have j40t : ∀ (K1' : Int → Int → Int → (List (List Int)) → (List Page) → JournalH → DiskH → (List (List Int)) → (List write) → Prop), okAt c number i = false → journal.Journal_read.j40 K0 K1' number (c.getD (1 + 2 * i) []) (c.getD (2 + 2 * i) []) (n : Int) (i : Int) true c ((List.range i).map (pgAt c)) j d s w := fun K1' h => by
      unfold journal.Journal_read.j40
      rw [br_true]
      exact h0 (bad h)
    cases hna : numS (c.getD (1 + 2 * i) []) != number with
    | true =>
      rw [br_true]
      refine j40t _ ?_
      unfold okAt
      have : (numS (c.getD (1 + 2 * i) []) == number) = false := by simpa [bne] using hna
      rw [this]; rfl
    | false =>
      rw [br_false]
      refine check_Number (by omega) ?_
      cases hnb : numS (c.getD (2 + 2 * i) []) != number with
      | true =>
        refine j40t _ ?_
        unfold okAt
        have : (numS (c.getD (2 + 2 * i) []) == number) = false := by simpa [bne] using hnb
        rw [this, Bool.and_false]
      | false =>
        have hok : okAt c number i = true := by
          unfold okAt
          have a1 : (numS (c.getD (1 + 2 * i) []) == number) = true := by simpa [bne] using hna
          have a2 : (numS (c.getD (2 + 2 * i) []) == number) = true := by simpa [bne] using hnb
          rw [a1, a2]; rfl
        unfold journal.Journal_read.j40
        rw [br_false]
        have l1 : (List.drop (Int.toNat (8 : Int)) (List.take (Int.toNat (40 : Int)) (c.getD (1 + 2 * i) []))).length = 32 := by
          show (List.drop 8 (List.take 40 _)).length = 32
          rw [List.length_drop, List.length_take]; omega
        have l2 : (List.drop (Int.toNat (8 : Int)) (List.take (Int.toNat (40 : Int)) (c.getD (2 + 2 * i) []))).length = 32 := by
          show (List.drop 8 (List.take 40 _)).length = 32
          rw [List.length_drop, List.length_take]; omega
        refine ⟨⟨by decide, by omega⟩, ⟨by decide, by decide⟩, ⟨by omega, by omega⟩, ⟨by decide, by omega⟩, ⟨by decide, by decide⟩, ⟨by omega, by omega⟩, ⟨by omega, by omega⟩, ⟨by decide, by omega⟩, check_Number ?_ ?_⟩
        · rw [List.length_drop, List.length_take]; omega
        refine ⟨⟨?_, ?_⟩, ?_⟩
        · rw [List.length_map, List.length_range, List.length_singleton]; omega
        · rw [List.length_map, List.length_range, List.length_singleton]; omega
        have e5 : (List.range i).map (pgAt c) ++ [(numS (List.drop (Int.toNat (4 : Int)) (List.take (Int.toNat (((List.length (c.getD (1 + 2 * i) [])) : Nat) : Int)) (c.getD (1 + 2 * i) []))), (((List.drop (Int.toNat (8 : Int)) (List.take (Int.toNat (40 : Int)) (c.getD (1 + 2 * i) []))) ++ (List.drop (Int.toNat (8 : Int)) (List.take (Int.toNat (40 : Int)) (c.getD (2 + 2 * i) [])))), ()))] = (List.range (i + 1)).map (pgAt c) := by
          rw [List.range_succ, List.map_append, Int.toNat_natCast, List.take_length]
          rfl
        rw [e5, wrap_succ i (by omega)]
        refine ih (i + 1) (by omega) fun k hk => ?_
        by_cases hki : k = i
        · subst hki; exact hok
        · exact ha k (by omega)
theorem Journal_read_s {s : List (List Int)} {d : DiskH} (hwf : WfS s) (hs : 50 ≤ s.length) (hs2 : s.length < 1000000) (hoff : dOff d = false)
    {K : Int → (List (List Int)) → (List write) → JournalH → DiskH → (List Page) → Prop}
    (h : ∀ nx : Int, (∀ i, i < 49 → numS (s.getD i []) < nx) → (∀ B : Int, 1 ≤ B → (∀ i, i < 49 → numS (s.getD i []) < B) → nx ≤ B) → K 0 s [] ((), nx, ()) d (readJ s)) :
    journal.Journal_read ((), (0 : Int), ()) d s [] K := by
  unfold journal.Journal_read
  refine ⟨50, read_l3 s d hwf hs hs2 hoff _ _ (fun nx ha hb => ?_) 49 0 0 rfl (fun k hk => absurd hk (by omega)) (fun B h1 _ => by omega)⟩
  have hc : (s.take 49).length = 49 := by rw [List.length_take]; omega
  have hwc : WfS (s.take 49) := fun p hp => hwf p (List.mem_of_mem_take hp)
  have g0 : ixN ([] : List Int) (s.take 49) (Int.toNat (0 : Int)) = s.getD 0 [] := by
    show (s.take 49).getD 0 [] = _
    exact getD_take (by decide) _
  have w0 := wf_getD hwf (i := 0) (by omega)
  rw [g0]
  have ed : List.drop (Int.toNat (4 : Int)) (List.take (Int.toNat (((List.length (s.getD 0 [])) : Nat) : Int)) (s.getD 0 [])) = (s.getD 0 []).drop 4 := by
    rw [Int.toNat_natCast, List.take_length]; rfl
  rw [ed]
  have hn4 := numS_range (w0.2.drop 4) (by rw [List.length_drop]; omega)
  refine ⟨⟨by decide, by omega⟩, by show 0 < _; omega, check_Number (by omega) ⟨⟨by decide, by omega⟩, by show 0 < _; omega, ⟨by omega, by omega⟩, ⟨by decide, by omega⟩, check_Number (by rw [List.length_drop]; omega) ?_⟩⟩
  have hK := h nx ha hb
  have okC : ∀ (number : Int) (n : Nat), n ≤ 24 → (List.range n).all (okAt (s.take 49) number) = (List.range n).all (okAt s number) := fun number n hn => by
    rw [Bool.eq_iff_iff, List.all_eq_true, List.all_eq_true]
    have : ∀ i ∈ List.range n, okAt (s.take 49) number i = okAt s number i := fun i hi => by
      have := List.mem_range.1 hi
      unfold okAt
      rw [getD_take (by omega), getD_take (by omega)]
    exact ⟨fun h i hi => by rw [← this i hi]; exact h i hi, fun h i hi => by rw [this i hi]; exact h i hi⟩
  have pgC : ∀ (n : Nat), n ≤ 24 → (List.range n).map (pgAt (s.take 49)) = (List.range n).map (pgAt s) := fun n hn => by
    apply List.map_congr_left
    intro i hi
    have := List.mem_range.1 hi
    unfold pgAt
    rw [getD_take (by omega), getD_take (by omega)]
  by_cases hbig : 24 < numS ((s.getD 0 []).drop 4)
  · have e : readJ s = [] := by unfold readJ; rw [if_pos (.inl hbig)]
    rw [gt_int hbig, br_true]
    unfold journal.Journal_read.j26
    rw [br_true]
    rw [e] at hK
    exact hK
  · rw [ngt_int (by omega), br_false]
    unfold journal.Journal_read.j26
    by_cases hz : numS (s.getD 0 []) = 0
    · have e : readJ s = [] := by unfold readJ; rw [if_pos (.inr hz)]
      have ez : (numS (s.getD 0 []) == (0 : Int)) = true := by rw [hz]; rfl
      rw [ez, br_true]
      rw [e] at hK
      exact hK
    · have ez : (numS (s.getD 0 []) == (0 : Int)) = false := by simpa using hz
      rw [ez, br_false]
      obtain ⟨n, hn⟩ := Int.eq_ofNat_of_zero_le hn4.1
      have en : (numS ((s.getD 0 []).drop 4)).toNat = n := by rw [hn]; rfl
      have e1 : readJ s = if (List.range n).all (okAt s (numS (s.getD 0 []))) then (List.range n).map (pgAt s) else [] := by
        unfold readJ
        rw [if_neg (fun h => h.elim hbig hz), en]
      rw [hn]
      refine ⟨n + 1, read_l16 (s.take 49) s [] _ d hc hwc (numS (s.getD 0 [])) n (by omega) _ _ (fun hf => ?_) (fun ht => ?_) n 0 (by omega) (fun k hk => absurd hk (by omega))⟩
      · rw [okC _ _ (by omega)] at hf
        rw [e1, hf] at hK
        exact hK
      · rw [okC _ _ (by omega)] at ht
        rw [pgC _ (by omega)]
        rw [e1, ht] at hK
        exact hK
theorem readJ_len {s : List (List Int)} (hwf : WfS s) (hs : 50 ≤ s.length) : (readJ s).length ≤ 24 := by
  unfold readJ
  split
  · exact Nat.zero_le _
  · rename_i h
    have w0 := wf_getD hwf (i := 0) (by omega)
    have hn4 := numS_range (w0.2.drop 4) (by rw [List.length_drop]; omega)
    split
    · rw [List.length_map, List.length_range]; omega
    · exact Nat.zero_le _
theorem Open_s {s : List (List Int)} {d : DiskH} (hwf : WfS s) (hs : 50 ≤ s.length) (hs2 : s.length < 1000000) (hoff : dOff d = false) (hp : Pgs s.length (readJ s))
    {K0 : Int → (List (List Int)) → (List write) → DiskH → JournalH → Prop} {K1 : Int → (List (List Int)) → (List write) → DiskH → Prop}
    (h0 : ∀ (nx : Int) d', (∀ i, i < 49 → numS (s.getD i []) < nx) → (∀ B : Int, 1 ≤ B → (∀ i, i < 49 → numS (s.getD i []) < B) → nx ≤ B) → On d d' → K0 0 (keepA (wsP (readJ s)) s) [] d' ((), nx, ()))
    (h9 : dLeft d ≠ -1 → ∀ k d', k ≤ (readJ s).length → dOff d' = true → K1 9 s ((wsP (readJ s)).take k) d') : journal.Open d s [] K0 K1 := by
  unfold journal.Open
  refine Disk_Sectors_s ?_
  show br (decide (((s.length : Nat) : Int) ≤ (49 : Int))) _ _
  rw [nle_int (by omega), br_false]
  refine Journal_read_s hwf hs hs2 hoff (fun nx ha hb => ?_)
  have eq : ((0 : Int) == (0 : Int)) = true := rfl
  rw [eq, br_true]
  by_cases hl : (readJ s).length = 0
  · have he : readJ s = [] := List.eq_nil_of_length_eq_zero hl
    rw [ngt_int (by omega), br_false, ite_eq0, br_false]
    have := h0 nx d ha hb (On.refl hoff)
    rw [he] at this
    exact this
  · rw [gt_int (by omega), br_true]
    refine apply_s (K := fun r s w d j => br (r != 0) (K1 r s w d) (K0 0 s w d j)) hs hs2 (by have := readJ_len hwf hs; omega) hp hoff (fun d1 hd1 => ?_) (fun hl' k d1 hk hd1 => ?_)
    · rw [ite_eq0, br_false]
      exact h0 nx d1 ha hb hd1
    · rw [ite_ne0, br_true]
      exact h9 hl' k d1 hk hd1
end Go.Iw
