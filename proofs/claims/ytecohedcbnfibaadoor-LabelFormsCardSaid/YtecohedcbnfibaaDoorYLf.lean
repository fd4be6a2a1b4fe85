/- Plain laws: whatever stands in a table's sectors, it is a table's, or it isn't opened. -/
import Derived.Test.YtecohedcbnfibaaDoorYM9
import Derived.Test.YtecohedcbnfibaaDoorYM10
import Derived.Test.YtecohedcbnfibaaDoorYM11
namespace Go.Iw
open Go.Iv
set_option linter.unusedVariables false
set_option linter.unusedSimpArgs false
set_option maxRecDepth 100000
set_option maxHeartbeats 4000000

/-! A sector that is read, and is the reader's own. -/
theorem Disk_Read_w_loop (at_ : Int) (d : DiskH) (s : List (List Int)) (w : List write) (K : List Int → DiskH → List (List Int) → List write → Prop) (hw : w.length < 9223372036854775807) :
    ∀ (m i : Nat) (o : List Int), i + m = w.length → K (rdW at_ o (w.drop i)) d s w → disk.Disk_Read_w.l7 K (m + 1) at_ ((w.length : Nat) : Int) (i : Int) o d s w := by
  intro m
  induction m with
  | zero =>
    intro i o hi h
    rw [List.drop_eq_nil_of_le (by omega)] at h
    unfold disk.Disk_Read_w.l7
    rw [lt_false (by omega), br_false]
    exact h
  | succ m ih =>
    intro i o hi h
    have hlt : i < w.length := by omega
    rw [List.drop_eq_getElem_cons hlt] at h
    rw [disk.Disk_Read_w.l7]
    rw [lt_true hlt, br_true, ixN_toNat _ _ _ hlt]
    refine ⟨⟨by omega, by omega⟩, by rw [Int.toNat_natCast]; exact hlt, ?_⟩
    rw [wrap_succ i (by omega)]
    have h' : K (rdW at_ (bif w[i].1 == at_ then w[i].2.1 else o) (w.drop (i + 1))) d s w := h
    cases hb : w[i].1 == at_ with
    | true => rw [hb] at h'; rw [br_true]; exact ih (i + 1) _ (by omega) h'
    | false => rw [hb] at h'; rw [br_false]; exact ih (i + 1) _ (by omega) h'
theorem Disk_Read_w_on {at_ : Nat} {d : DiskH} {s : List (List Int)} {w : List write} {K0 : List Int → Int → List (List Int) → List write → DiskH → Prop} {K : Int → List (List Int) → List write → DiskH → List Int → Prop}
    (hat : at_ < s.length) (hoff : dOff d = false) (hw : w.length < 9223372036854775807) (h : K 0 s w d (curS s w at_)) : disk.Disk_Read_w (at_ : Int) d s w K0 K := by
  unfold disk.Disk_Read_w
  rw [nlt_int (by omega), br_false]
  refine Disk_Sectors_s ?_
  show br (decide ((at_ : Int) ≥ ((s.length : Nat) : Int))) _ _
  rw [nge_int (by omega), br_false]
  have hoff' : d.2.2.2.1 = false := hoff
  rw [hoff', br_false]
  refine ⟨⟨by omega, by omega⟩, by rw [Int.toNat_natCast]; exact hat, w.length + 1, ?_⟩
  refine Disk_Read_w_loop _ _ _ _ _ hw w.length 0 _ (by omega) ?_
  rw [Int.toNat_natCast]
  unfold ixN
  rw [getD_any hat _ []]
  exact h

/-! Refs that are a table's: their names are, and rise. -/
theorem TabL.pw {l : List Ref} (h : TabL l) : (liveR l).Pairwise (fun a b => a.1 ≠ b.1) := by
  unfold liveR
  rw [List.pairwise_filter, List.pairwise_iff_getElem]
  intro i k hi hk hik ha hb
  have hl := h.len
  have e := h.dist i k (by omega) (by omega) (by omega)
  rw [getD_getElem hi, getD_getElem hk] at e
  refine e fun e2 => ?_
  rw [decide_eq_true e2] at ha
  cases ha
theorem TabL.named {l : List Ref} (h : TabL l) {r : Ref} (hr : r ∈ liveR l) : rightB r.1 = true := by
  unfold liveR at hr
  obtain ⟨h1, h2⟩ := List.mem_filter.1 hr
  obtain ⟨i, hi, rfl⟩ := List.getElem_of_mem h1
  have hl := h.len
  have := (h.good i (by omega)).2
  rw [getD_getElem hi] at this
  rcases this with e | e
  · rw [e] at h2; exact absurd h2 (by decide)
  · exact e
theorem forms_loop {L : List Ref} (hL : L.length < 1000000) (hs : SortR L) (hd : L.Pairwise (fun a b => a.1 ≠ b.1)) (hr : ∀ r ∈ L, rightB r.1 = true) (K : Bool → Prop) (h : K true) :
    ∀ m i : Nat, i + m = L.length → law08.LabelForms.l25 K (K true) (m + 1) (i : Int) L := by
  intro m
  induction m with
  | zero =>
    intro i hi
    unfold law08.LabelForms.l25
    rw [lt_false (by omega), br_false]
    exact h
  | succ m ih =>
    intro i hi
    have hlt : i < L.length := by omega
    have hri := hr _ (List.getElem_mem hlt)
    rw [law08.LabelForms.l25]
    rw [lt_true hlt, br_true, ixN_toNat _ _ _ hlt]
    refine ⟨⟨by omega, by omega⟩, by rw [Int.toNat_natCast]; exact hlt, right_law _ _ (Nat.lt_of_le_of_lt (rightB_size hri).1 (by decide)) ?_⟩
    rw [hri, Bool.not_true, br_false]
    have next := ih (i + 1) (by omega)
    rw [wrap_succ i (by omega)]
    cases i with
    | zero => rw [ngt_int (by decide), br_false]; exact next
    | succ q =>
      rw [gt_int (by omega), br_true]
      have e1 : IntKind.wrap .i64 (((q + 1 : Nat) : Int) - 1) = ((q : Nat) : Int) := by
        rw [wrap_small (by omega) (by omega)]; omega
      have hq : q < L.length := by omega
      rw [e1, ixN_toNat _ _ _ hq]
      refine ⟨⟨by omega, by omega⟩, by rw [Int.toNat_natCast]; exact hq, ⟨by omega, by omega⟩, by rw [Int.toNat_natCast]; exact hlt, ?_⟩
      have a1 : cmpN L[q].1 L[q + 1].1 ≤ 0 := List.pairwise_iff_getElem.1 hs q (q + 1) hq hlt (by omega)
      have a2 : L[q].1 ≠ L[q + 1].1 := List.pairwise_iff_getElem.1 hd q (q + 1) hq hlt (by omega)
      have a3 : cmpN L[q].1 L[q + 1].1 < 0 := by
        rcases Int.lt_or_le (cmpN L[q].1 L[q + 1].1) 0 with e | e
        · exact e
        · exact absurd (cmpN_eq (Int.le_antisymm a1 e)) a2
      rw [ByteArray.toList_eq, ByteArray.toList_eq, cmpB_less, decide_eq_true a3, Bool.not_true, br_false]
      exact next

/-! A sector behind the journal, written past it. -/
theorem JI.put {B : Int} {s : List (List Int)} (h : JI B s) {q : Nat} (hq : 49 ≤ q) {p : List Int} (hp : p.length = 64 ∧ Byt p) : JI B (s.set q p) := by
  have hd : ∀ i, i < 49 → (s.set q p).getD i [] = s.getD i [] := fun i hi => by
    rw [set_getD, if_neg (fun e => by omega)]
  refine ⟨h.wf.set hp, by rw [List.length_set]; exact h.ge, by rw [List.length_set]; exact h.le, fun i hi => by rw [hd i hi]; exact h.num i hi, ?_⟩
  rw [readJ_congr h.wf h.ge hd, List.length_set]
  exact h.pgs
section
variable {N : Nat} {C : List (List Int)} {l : List Ref} {s : List (List Int)} {w : List write} {j : JournalH} {d : DiskH}
theorem forms_tail (ht : Tab N C l s w j d) (hN : 1 ≤ N) (hd : dLeft d = -1) (hC : C.length = 70) {b : List Int} (hb : b.length ≤ 64 ∧ Byt b) {k : Nat} (hk : k < 12) (K : Bool → Prop) (h : K true) :
    disk.Disk_Write ((97 + k : Nat) : Int) b d s w (fun r0_22 ot10_23 ot11_24 ot1000_25 => (disk.Disk_Flush ot1000_25 ot10_23 ot11_24 (fun r0_26 ot4_27 ot5_28 ot1000_29 => (journal.Open ot1000_29 ot4_27 ot5_28 (fun r1_30 ot7_31 ot9_32 ot1000_33 ot1001_34 => (br (r1_30 != (0 : Int)) (K false) (label.Open ot1001_34 ot1000_33 ot7_31 ot9_32 (fun r1_35 ot10_36 ot12_37 ot1000_38 ot1001_39 ot1002_40 => (br (r1_35 != (0 : Int)) (br (r1_35 == (7 : Int)) (K (false && true)) (K false)) (label.Table_All ot1002_40 ot1000_38 ot1001_39 ot10_36 ot12_37 (fun ot6_41 ot7_42 ot1000_43 ot1001_44 ot1002_45 ot1003_46 => (∃ n_50, law08.LabelForms.l25 K (K true) n_50 (0 : Int) ot1003_46))))) (fun r1_51 ot10_52 ot12_53 ot1000_54 ot1001_55 => (br (r1_51 != (0 : Int)) (br (r1_51 == (7 : Int)) (K (true && true)) (K false)) (label.Table_All_n (fun r_56 => (∃ n_58, law08.LabelForms.l25 K (K true) n_58 (0 : Int) r_56)))))))) (fun r1_59 ot7_60 ot9_61 ot1000_62 => (br (r1_59 != (0 : Int)) (K false) (K false))))))) := by
  have hlen := ht.st.len
  obtain ⟨nx, _, h1, h2, hj⟩ := ht.st.nx
  have hw := ht.st.w
  subst hw
  refine wr_step (at_ := 97 + k) (by omega) hb.1 (by decide) ht.st.off (fun d1 h1d => ?_) (fun hne => absurd hd hne)
  refine fl_step (by show 1 < 1000000; decide) (fun x hx => ?_) h1d.1 (fun d2 h2d => ?_) (fun hne => absurd (h1d.2 hd) hne)
  · have hx := List.mem_singleton.1 hx
    subst hx
    exact ⟨by show (0 : Int) ≤ ((97 + k : Nat) : Int); omega, by show ((97 + k : Nat) : Int) < _; omega⟩
  have es : keepA ([] ++ [(((97 + k : Nat) : Int), (padS b, ()))]) s = s.set (97 + k) (padS b) := by
    show s.set (((97 + k : Nat) : Int)).toNat (padS b) = _
    rw [Int.toNat_natCast]
  rw [es]
  have hj' := (hj.mono (show (nx : Int) ≤ (N : Int) by omega)).put (q := 97 + k) (by omega) ⟨padS_len b, padS_byt hb.2⟩
  have hsh : Shut N (cont (s.set (97 + k) (padS b))) (s.set (97 + k) (padS b)) [] d2 := ⟨rfl, h2d.1, hj', rfl⟩
  refine hsh.open hN (fun s' w' j' d' hst hd' _ => ?_) (fun hne => absurd (h2d.2 (h1d.2 hd)) hne)
  rw [ite_eq0, br_false]
  refine hst.open_tab (by rw [hj'.cont_len, List.length_set]; omega) (fun l' ht' => ?_) (fun _ => ?_)
  · rw [ite_eq0, br_false]
    refine Tall ht'.tab.len fun L hp hs => ?_
    have hle : L.length ≤ 12 := by
      rw [hp.length_eq]
      have := List.length_filter_le (fun r : Ref => !decide (r.1 = noStr)) l'
      have h12 := ht'.tab.len
      unfold liveR
      omega
    refine ⟨L.length + 1, forms_loop (by omega) hs ?_ (fun r hr => ht'.tab.named (hp.mem_iff.1 hr)) K h L.length 0 (by omega)⟩
    exact (hp.pairwise_iff (fun h1 h2 => h1 h2.symm)).2 ht'.tab.pw
  · exact h
end
theorem labelForms (by_ : TypeId → Nat) (at0 : Int) (p1 : List Int) (spoil2 turn3 kind4 : Int) (ha : Wf by_ (.int .u8) at0) (hp : Wf by_ (.sl 5 (.int .u8)) p1) (hs : Wf by_ (.int .u8) spoil2) (ht : Wf by_ (.int .u8) turn3) (hk : Wf by_ (.int .u8) kind4) (K : Bool → Prop) (h : K true) :
    law08.LabelForms at0 p1 spoil2 turn3 kind4 K := by
  have hpb : Byt p1 := fun x hx => hp.1 x hx
  obtain ⟨k, rfl, hk2⟩ := byt_nat (b := at0) ha
  obtain ⟨sp, rfl, hsp⟩ := byt_nat (b := spoil2) hs
  have e12 : IntKind.wrap .i64 ((97 : Int) + (IntKind.wrap .i64 (Int.tmod (k : Int) (12 : Int)))) = ((97 + k % 12 : Nat) : Int) := by
    have : Int.tmod (k : Int) (12 : Int) = ((k % 12 : Nat) : Int) := rfl
    rw [this, wrap_nat _ (by omega), wrap_small (by omega) (by omega)]; omega
  have hm : k % 12 < 12 := Nat.mod_lt _ (by decide)
  unfold law08.LabelForms
  rw [e12]
  refine awake_law _ ?_
  rw [Bool.not_true, br_false]
  by_cases hl : (64 : Int) < (((List.length p1) : Nat) : Int)
  · rw [gt_int hl, br_true]
    exact awake_law _ h
  rw [ngt_int (by omega), br_false]
  have hl64 : p1.length ≤ 64 := by omega
  refine fresh_law fun s w j d ht hd => ?_
  rw [Bool.not_true, br_false]
  generalize hmn : (ByteArray.mk #[109, 97, 105, 110]) = main
  have hr : rightB main = true := by rw [← hmn]; decide +kernel
  obtain ⟨_, _, hn⟩ := rightB_size hr
  generalize hk5 : List.set (List.set (List.replicate 32 (0 : Int)) 0 (1 : Int)) 1 (2 : Int) = k5
  have hk5w : WfR (main, (k5, (false, ()))) := by
    rw [← hk5]
    refine ⟨by show (List.set (List.set _ _ _) _ _).length = 32; rw [List.length_set, List.length_set, List.length_replicate], fun x hx => ?_⟩
    rcases List.mem_or_eq_of_mem_set hx with hx | rfl
    · rcases List.mem_or_eq_of_mem_set hx with hx | rfl
      · exact Byt.zeros 32 x hx
      · decide
    · decide
  refine ht.make (by decide) (r := (main, (k5, (false, ())))) hk5w (fun hf => absurd hr (by rw [show rightB main = false from hf]; decide)) (fun _ ⟨k, hk, e⟩ => absurd (e.symm.trans (rep_none hk)) hn) (fun _ _ hfull => absurd (rep_none (show 0 < 12 by decide)) (hfull 0 (by decide))) (fun _ _ i hi hin hmin s1 w1 j1 d1 ht1 hd1 => ?_) (fun hne => absurd hd hne)
  have hi0 : i = 0 := by
    rcases Nat.eq_zero_or_pos i with e | e
    · exact e
    · exact absurd (rep_none (show 0 < 12 by decide)) (hmin 0 e)
  subst hi0
  rw [ite_eq0, br_false]
  generalize hb1 : (ByteArray.mk #[98, 46, 49]) = nb
  have hrb : rightB nb = true := by rw [← hb1]; decide +kernel
  obtain ⟨_, _, hnb⟩ := rightB_size hrb
  have hbm : nb ≠ main := by rw [← hb1, ← hmn]; decide
  have nm1 : ∀ q, q < 12 → (((List.replicate 12 rZ).set 0 (main, (k5, (false, ())))).getD q rZ).1 = if q = 0 then main else noStr := fun q hq => by
    rw [one_name hq]
    by_cases e : q = 0
    · rw [if_pos e, if_pos e]
    · rw [if_neg e, if_neg e]
  refine ht1.make (by decide) (r := (nb, ((List.replicate 32 (0 : Int)), (true, ())))) ⟨List.length_replicate .., Byt.zeros 32⟩ (fun hf => absurd hrb (by rw [show rightB nb = false from hf]; decide)) (fun _ ⟨q, hq, e⟩ => ?_) (fun _ _ hfull => ?_) (fun _ _ i hi hin hmin s2 w2 j2 d2 ht2 hd2 => ?_) (fun hne => absurd (hd1 hd) hne)
  · have e : _ = nb := e
    rw [nm1 q hq] at e
    split at e
    · exact absurd e.symm hbm
    · exact absurd e.symm hnb
  · have := hfull 1 (by decide)
    rw [nm1 1 (by decide), if_neg (by decide)] at this
    exact absurd rfl this
  rw [ite_eq0, br_false]
  have hC : ((((List.replicate 70 (List.replicate 64 (0 : Int))).set (48 + 0) (secR (main, (k5, (false, ()))))).set (48 + i) (secR (nb, ((List.replicate 32 (0 : Int)), (true, ())))))).length = 70 := by
    rw [List.length_set, List.length_set, List.length_replicate]
  have tail := fun (b : List Int) (hb : b.length ≤ 64 ∧ Byt b) => forms_tail ht2 (by decide) (hd2 (hd1 hd)) hC hb hm K h
  refine r01_Seal hpb (by omega) ?_
  refine ⟨by decide, ?_⟩
  cases Int.tmod kind4 (3 : Int) == (1 : Int) with
  | true =>
    rw [br_true]
    have e64 : IntKind.wrap .i64 ((64 : Int) - (((List.length p1) : Nat) : Int)) = ((64 - p1.length : Nat) : Int) := by
      rw [wrap_small (by omega) (by omega)]; omega
    rw [e64, Int.toNat_natCast]
    refine ⟨⟨by omega, by omega⟩, by omega, ⟨by rw [List.length_replicate]; omega, by rw [List.length_replicate]; omega⟩, by decide, ?_⟩
    exact tail _ ⟨by rw [List.length_append, List.length_replicate]; omega, hpb.append (Byt.zeros _)⟩
  | false =>
    rw [br_false]
    cases Int.tmod kind4 (3 : Int) == (2 : Int) with
    | false =>
      rw [br_false]
      exact ⟨by decide, tail _ ⟨by rw [sealS_len]; omega, sealS_byt hpb⟩⟩
    | true =>
      rw [br_true]
      have hlen := ht2.st.len
      have hw := ht2.st.w
      have hwf := ht2.st.wf
      refine Disk_Read_w_on (at_ := 97) (by omega) ht2.st.off (by rw [hw]; decide) ?_
      have ec : curS s2 w2 97 = ((((List.replicate 70 (List.replicate 64 (0 : Int))).set (48 + 0) (secR (main, (k5, (false, ()))))).set (48 + i) (secR (nb, ((List.replicate 32 (0 : Int)), (true, ())))))).getD 48 [] := by
        rw [hw]; exact ht2.st.get (q := 48)
      rw [ec]
      have hsec := wf_getD hwf (i := 48) (by omega)
      generalize ((((List.replicate 70 (List.replicate 64 (0 : Int))).set (48 + 0) (secR (main, (k5, (false, ()))))).set (48 + i) (secR (nb, ((List.replicate 32 (0 : Int)), (true, ())))))).getD 48 [] = o at hsec
      have em : Int.tmod (sp : Int) (64 : Int) = ((sp % 64 : Nat) : Int) := rfl
      have h64 : sp % 64 < 64 := Nat.mod_lt _ (by decide)
      rw [em, Int.toNat_natCast]
      refine ⟨by decide, ⟨by omega, by omega⟩, h64, ⟨by omega, by omega⟩, h64, by decide, ?_⟩
      refine tail _ ⟨by rw [List.length_set]; omega, fun x hx => ?_⟩
      rcases List.mem_or_eq_of_mem_set hx with hx | rfl
      · exact hsec.2 x hx
      · exact wrap_u8_byt _
end Go.Iw
