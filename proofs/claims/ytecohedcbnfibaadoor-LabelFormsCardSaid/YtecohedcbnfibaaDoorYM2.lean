/- Plain specifications: the disk. -/
import Derived.Test.YtecohedcbnfibaaDoorYM1
namespace Go.Iw
open Go.Iv
set_option linter.unusedVariables false
set_option linter.unusedSimpArgs false
set_option maxRecDepth 100000

theorem ge_int {a b : Int} (h : b ≤ a) : decide (a ≥ b) = true := by simp; omega
theorem nge_int {a b : Int} (h : a < b) : decide (a ≥ b) = false := by simp; omega
theorem lt_int {a b : Int} (h : a < b) : decide (a < b) = true := by simp; omega
theorem nlt_int {a b : Int} (h : b ≤ a) : decide (a < b) = false := by simp; omega
theorem gt_int {a b : Int} (h : b < a) : decide (a > b) = true := by simp; omega
theorem ngt_int {a b : Int} (h : a ≤ b) : decide (a > b) = false := by simp; omega
theorem le_int {a b : Int} (h : a ≤ b) : decide (a ≤ b) = true := by simp; omega
theorem nle_int {a b : Int} (h : b < a) : decide (a ≤ b) = false := by simp; omega

def rdW (at_ : Int) : List Int → List write → List Int
  | o, [] => o
  | o, x :: r => rdW at_ (bif x.1 == at_ then x.2.1 else o) r
theorem Disk_Read_loop (at_ : Int) (d : DiskH) (s : List (List Int)) (w : List write) (K : List Int → DiskH → List (List Int) → List write → Prop) (hw : w.length < 9223372036854775807) :
    ∀ (m i : Nat) (o : List Int), i + m = w.length → K (rdW at_ o (w.drop i)) d s w → disk.Disk_Read.l7 K (m + 1) at_ ((w.length : Nat) : Int) (i : Int) o d s w := by
  intro m
  induction m with
  | zero =>
    intro i o hi h
    rw [List.drop_eq_nil_of_le (by omega)] at h
    unfold disk.Disk_Read.l7
    rw [lt_false (by omega), br_false]
    exact h
  | succ m ih =>
    intro i o hi h
    have hlt : i < w.length := by omega
    rw [List.drop_eq_getElem_cons hlt] at h
    rw [disk.Disk_Read.l7]
    rw [lt_true hlt, br_true, ixN_toNat _ _ _ hlt]
    refine ⟨⟨by omega, by omega⟩, by rw [Int.toNat_natCast]; exact hlt, ?_⟩
    unfold disk.Disk_Read.j91
    rw [wrap_succ i (by omega)]
    have h' : K (rdW at_ (bif w[i].1 == at_ then w[i].2.1 else o) (w.drop (i + 1))) d s w := h
    cases hb : w[i].1 == at_ with
    | true => rw [hb] at h'; rw [br_true]; exact ih (i + 1) _ (by omega) h'
    | false => rw [hb] at h'; rw [br_false]; exact ih (i + 1) _ (by omega) h'
abbrev dOff (d : DiskH) : Bool := d.2.2.2.1
abbrev dLeft (d : DiskH) : Int := d.2.2.1
abbrev dActs (d : DiskH) : Int := d.2.2.2.2.1
def mkD (left : Int) (off : Bool) (acts : Int) : DiskH := ((), ((), (left, (off, (acts, ())))))
theorem Disk_Sectors_s {x : Disk} {K : Int → Prop} (h : K ((x.1.length : Nat) : Int)) : disk.Disk_Sectors x K := h
def curS (s : List (List Int)) (w : List write) (at_ : Nat) : List Int := rdW (at_ : Int) (s.getD at_ []) w
theorem getD_any {α : Type} {xs : List α} {i : Nat} (h : i < xs.length) (z z' : α) : xs.getD i z = xs.getD i z' := by
  rw [List.getD_eq_getElem?_getD, List.getD_eq_getElem?_getD, List.getElem?_eq_getElem h]; rfl
theorem Disk_Read_on {at_ : Nat} {d : DiskH} {s : List (List Int)} {w : List write} {K : List Int → Int → List (List Int) → List write → DiskH → Prop}
    (hat : at_ < s.length) (hoff : dOff d = false) (hw : w.length < 9223372036854775807) (h : K (curS s w at_) 0 s w d) : disk.Disk_Read (at_ : Int) d s w K := by
  unfold disk.Disk_Read
  rw [nlt_int (by omega), br_false]
  refine Disk_Sectors_s ?_
  show disk.Disk_Read.j4 _ _ (decide ((at_ : Int) ≥ ((s.length : Nat) : Int))) _ _ _
  rw [nge_int (by omega)]
  unfold disk.Disk_Read.j4
  rw [br_false]
  have hoff' : d.2.2.2.1 = false := hoff
  rw [hoff', br_false]
  refine ⟨⟨by omega, by omega⟩, by rw [Int.toNat_natCast]; exact hat, w.length + 1, ?_⟩
  refine Disk_Read_loop _ _ _ _ _ hw w.length 0 _ (by omega) ?_
  rw [Int.toNat_natCast]
  unfold ixN
  rw [getD_any hat _ []]
  exact h
theorem Disk_Read_off {at_ : Nat} {d : DiskH} {s : List (List Int)} {w : List write} {K : List Int → Int → List (List Int) → List write → DiskH → Prop}
    (hat : at_ < s.length) (hoff : dOff d = true) (h : K [] 9 s w d) : disk.Disk_Read (at_ : Int) d s w K := by
  unfold disk.Disk_Read
  rw [nlt_int (by omega), br_false]
  refine Disk_Sectors_s ?_
  show disk.Disk_Read.j4 _ _ (decide ((at_ : Int) ≥ ((s.length : Nat) : Int))) _ _ _
  rw [nge_int (by omega)]
  unfold disk.Disk_Read.j4
  have hoff' : d.2.2.2.1 = true := hoff
  rw [br_false, hoff', br_true]
  exact h

def actD (d : DiskH) : Bool × DiskH := bif dOff d then (false, d) else bif dLeft d == 0 then (false, mkD (dLeft d) true (IntKind.wrap .i64 (dActs d + 1))) else (true, mkD (maxInt (IntKind.wrap .i64 (dLeft d - 1)) (-1)) false (IntKind.wrap .i64 (dActs d + 1)))
theorem Disk_act_s {d : DiskH} {s : List (List Int)} {w : List write} {K : Bool → List (List Int) → List write → DiskH → Prop} (h : K (actD d).1 s w (actD d).2) : disk.Disk_act d s w K := by
  unfold disk.Disk_act
  unfold actD at h
  cases ho : dOff d with
  | true =>
    rw [ho] at h
    have ho' : d.2.2.2.1 = true := ho
    rw [ho', br_true]; exact h
  | false =>
    rw [ho] at h
    have ho' : d.2.2.2.1 = false := ho
    rw [ho', br_false]
    cases hl : dLeft d == 0 with
    | true =>
      rw [hl] at h
      rw [br_true]; exact h
    | false =>
      rw [hl] at h
      rw [br_false]; exact h
theorem Disk_Write_s {at_ : Nat} {p : List Int} {d : DiskH} {s : List (List Int)} {w : List write} {K : Int → List (List Int) → List write → DiskH → Prop}
    (hat : at_ < s.length) (hp : p.length ≤ 64) (hw : w.length < 1000000)
    (h : K (bif (actD d).1 then 0 else 9) s (bif dOff d then w else w ++ [((at_ : Int), (cpy p (List.replicate 64 0), ()))]) (actD d).2) : disk.Disk_Write (at_ : Int) p d s w K := by
  unfold disk.Disk_Write
  rw [nlt_int (by omega), br_false]
  refine Disk_Sectors_s ?_
  show br (decide ((at_ : Int) ≥ ((s.length : Nat) : Int))) _ _
  rw [nge_int (by omega), br_false, ngt_int (by omega)]
  unfold disk.Disk_Write.j4
  rw [br_false]
  refine Disk_act_s ?_
  unfold disk.Disk_Write.j37
  cases ho : dOff d with
  | true =>
    have ho' : d.2.2.2.1 = true := ho
    rw [ho'] ; rw [ho] at h
    have e : (actD d).1 = false := by unfold actD; rw [ho]; rfl
    rw [e] at h ⊢
    exact h
  | false =>
    have ho' : d.2.2.2.1 = false := ho
    rw [ho'] ; rw [ho] at h
    rw [Bool.not_false, br_true]
    refine ⟨⟨?_, ?_⟩, ?_⟩
    · rw [List.length_singleton]; omega
    · rw [List.length_singleton]; omega
    · cases e : (actD d).1 with
      | true => rw [e] at h; exact h
      | false => rw [e] at h; exact h

def keepB (f : Nat → Bool) : Nat → List write → List (List Int) → List (List Int)
  | _, [], s => s
  | i, x :: r, s => keepB f (i + 1) r (bif f i then s.set x.1.toNat x.2.1 else s)
def InR (n : Nat) (w : List write) : Prop := ∀ x ∈ w, 0 ≤ x.1 ∧ x.1 < (n : Int)
theorem keepB_len (f : Nat → Bool) : ∀ (w : List write) (i : Nat) (s : List (List Int)), (keepB f i w s).length = s.length
  | [], _, _ => rfl
  | x :: r, i, s => by
    unfold keepB
    rw [keepB_len f r]
    cases f i
    · rfl
    · exact List.length_set ..
theorem keep_f_loop (d : DiskH) (w : List write) (n : Nat) (hr : InR n w) (K : DiskH → List (List Int) → List write → Prop) (hw : w.length < 9223372036854775807) :
    ∀ (m i : Nat) (s : List (List Int)), s.length = n → i + m = w.length → K d (keepB (fun _ => true) i (w.drop i) s) w → disk.Disk_keep_f.l1 K (m + 1) ((w.length : Nat) : Int) (i : Int) d s w := by
  intro m
  induction m with
  | zero =>
    intro i s hs hi h
    rw [List.drop_eq_nil_of_le (by omega)] at h
    unfold disk.Disk_keep_f.l1
    rw [lt_false (by omega), br_false]
    exact h
  | succ m ih =>
    intro i s hs hi h
    have hlt : i < w.length := by omega
    rw [List.drop_eq_getElem_cons hlt] at h
    rw [disk.Disk_keep_f.l1]
    rw [lt_true hlt, br_true, ixN_toNat _ _ _ hlt]
    have hx := hr w[i] (List.getElem_mem hlt)
    refine ⟨⟨by omega, by omega⟩, by rw [Int.toNat_natCast]; exact hlt, ?_⟩
    unfold disk.Disk_Flush_c1
    show br true _ _
    rw [br_true]
    refine ⟨⟨hx.1, by rw [hs]; exact hx.2⟩, by omega, ?_⟩
    unfold disk.Disk_keep_f.j43
    rw [wrap_succ i (by omega)]
    exact ih (i + 1) _ (by rw [List.length_set]; exact hs) (by omega) h
theorem Disk_Flush_s {d : DiskH} {s : List (List Int)} {w : List write} {K : Int → List (List Int) → List write → DiskH → Prop} (hw : w.length < 1000000) (hr : InR s.length w)
    (h : bif (actD d).1 then K 0 (keepB (fun _ => true) 0 w s) [] (actD d).2 else K 9 s w (actD d).2) : disk.Disk_Flush d s w K := by
  unfold disk.Disk_Flush
  refine Disk_act_s ?_
  cases e : (actD d).1 with
  | false => rw [e] at h; exact h
  | true =>
    rw [e] at h
    show disk.Disk_keep_f _ _ _ _
    unfold disk.Disk_keep_f
    exact ⟨w.length + 1, keep_f_loop _ w s.length hr _ (by omega) w.length 0 s rfl (by omega) h⟩

/-! Sectors, and what is written, being what they are. -/
def WfS (s : List (List Int)) : Prop := ∀ p ∈ s, p.length = 64 ∧ Byt p
def WfW (w : List write) : Prop := ∀ x ∈ w, x.2.1.length = 64 ∧ Byt x.2.1
theorem WfS.set {s : List (List Int)} (h : WfS s) {i : Nat} {p : List Int} (hp : p.length = 64 ∧ Byt p) : WfS (s.set i p) := fun q hq => by
  rcases List.mem_or_eq_of_mem_set hq with hq | rfl
  · exact h q hq
  · exact hp
theorem WfS.keep {f : Nat → Bool} : ∀ {w : List write} {i : Nat} {s : List (List Int)}, WfS s → WfW w → WfS (keepB f i w s)
  | [], _, _, h, _ => h
  | x :: r, i, s, h, k => by
    unfold keepB
    refine WfS.keep ?_ (fun y hy => k y (List.mem_cons_of_mem _ hy))
    cases f i
    · exact h
    · exact h.set (k x (List.mem_cons_self ..))
theorem WfS.cur {s : List (List Int)} (h : WfS s) : ∀ {w : List write}, WfW w → ∀ {o : List Int} {at_ : Int}, (o.length = 64 ∧ Byt o) → (rdW at_ o w).length = 64 ∧ Byt (rdW at_ o w)
  | [], _, o, _, ho => ho
  | x :: r, k, o, at_, ho => by
    unfold rdW
    refine WfS.cur h (fun y hy => k y (List.mem_cons_of_mem _ hy)) ?_
    cases x.1 == at_
    · exact ho
    · exact k x (List.mem_cons_self ..)
end Go.Iw
