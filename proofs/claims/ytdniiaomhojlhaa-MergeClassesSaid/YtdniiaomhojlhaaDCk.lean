/- rules.Check: a slice of functions, called one by one. -/
import Derived.Laws.CopyOwn
import Derived.Test.YtdniiaomhojlhaaDSo1
namespace Go.Iw.Ck
open Go.Iv Go.Proofs Go.RowKit Go.Shelf
set_option linter.unusedVariables false
set_option linter.unusedSimpArgs false

attribute [local go_sem] Oper.semAt_some

/-- What is asked of a result that is a Boolean. -/
def jB (J : Bool → Prop) : List AV0 → Prop
  | [.tv .bool t] => J t
  | _ => False
theorem jB_out {J : Bool → Prop} {res : List AV0} (h : jB J res) : ∃ t, res = [.tv .bool t] ∧ J t := by
  unfold jB at h
  split at h
  · exact ⟨_, rfl, h⟩
  · exact h.elim
/-- What a rule tells. -/
def RetB (f : FuncId) (c : List Elem) (e : Elem) (t : Bool) : Prop := ∀ (w : World) (ok : Nat → Prop) (v : Value), (∀ x, ok x → x < w.heap.size) → RepV w ok (.sl 27 tElem) c v →
  Calls Try.prog f #[v, .agg (cL e).toArray] w fun r w' => r = .returned (.bool t) ∧ Below w.heap.size w w'
def ruleD (k : Nat) (c : List Elem) (e : Elem) (J : Bool → Prop) : Prop := ∃ t, J t ∧ RetB (59 + k) c e t
theorem rule_det {f : FuncId} {b : (List Elem) → Elem → (Bool → Prop) → Prop} {F : List AV0 → (List AV0 → Prop) → Prop} (hg : Go.Iv.Good Try.prog f F) (hF : ∀ c e J, b c e J → F [.tv (.sl 27 tElem) c, .tv tElem e] (jB J)) (c : List Elem) (e : Elem) (J : Bool → Prop) (hb : b c e J) : ∃ t, J t ∧ RetB f c e t := by
  obtain ⟨res, hj, hfn⟩ := hg.det _ (jB J) (hF c e J hb)
  obtain ⟨t, rfl, ht⟩ := jB_out hj
  refine ⟨t, ht, fun w ok v hok hv => ?_⟩
  refine (hfn [.tv (.sl 27 tElem) c, .tv tElem e] (fun r => r = [.tv .bool t]) ⟨rfl, rfl⟩ w ok [v, .agg (cL e).toArray] hok rfl ?_).mono ?_
  · intro i x hx
    match i, hx with
    | 0, hx => cases hx; exact ⟨_, rfl, fun _ _ => hv⟩
    | 1, hx => cases hx; exact ⟨_, rfl, fun _ _ => ⟨cL e, rep_cL _ _ e, rfl⟩⟩
  · rintro r W' ⟨res, us, u, okr, rfl, rfl, hb, hl, hus, _, hr, _⟩
    obtain ⟨u', hu, hx⟩ := hr 0 _ rfl
    have hx := RepV.bool (hx [] (fun _ => undef))
    match us, hl, hu with
    | [u''], _, hu => cases hu; exact ⟨by rw [hus, hx]; rfl, hb⟩
theorem rule_to : ∀ k, k < 7 → ∀ c e J, ruleK k c e J → ruleD k c e J
  | 0, _ => rule_det rules.kinds.good fun c e J h => by have q : rules.kinds.F [.tv (.sl 27 tElem) c, .tv tElem e] (jB J) = rules.kinds c e J := (by kernel_rfl); rw [q]; exact h
  | 1, _ => rule_det rules.names.good fun c e J h => by have q : rules.names.F [.tv (.sl 27 tElem) c, .tv tElem e] (jB J) = rules.names c e J := (by kernel_rfl); rw [q]; exact h
  | 2, _ => rule_det rules.parents.good fun c e J h => by have q : rules.parents.F [.tv (.sl 27 tElem) c, .tv tElem e] (jB J) = rules.parents c e J := (by kernel_rfl); rw [q]; exact h
  | 3, _ => rule_det rules.rings.good fun c e J h => by have q : rules.rings.F [.tv (.sl 27 tElem) c, .tv tElem e] (jB J) = rules.rings c e J := (by kernel_rfl); rw [q]; exact h
  | 4, _ => rule_det rules.ends.good fun c e J h => by have q : rules.ends.F [.tv (.sl 27 tElem) c, .tv tElem e] (jB J) = rules.ends c e J := (by kernel_rfl); rw [q]; exact h
  | 5, _ => rule_det rules.orders.good fun c e J h => by have q : rules.orders.F [.tv (.sl 27 tElem) c, .tv tElem e] (jB J) = rules.orders c e J := (by kernel_rfl); rw [q]; exact h
  | 6, _ => rule_det rules.mixed.good fun c e J h => by have q : rules.mixed.F [.tv (.sl 27 tElem) c, .tv tElem e] (jB J) = rules.mixed c e J := (by kernel_rfl); rw [q]; exact h
theorem rule_enter : ∀ k, k < 7 → ∀ args w, (callFunc (59 + k) args).run Try.prog w = .ok (.enter (59 + k) args) w
  | 0, _ => enters_of Try.func59 (by kernel_rfl) rfl
  | 1, _ => enters_of Try.func60 (by kernel_rfl) rfl
  | 2, _ => enters_of Try.func61 (by kernel_rfl) rfl
  | 3, _ => enters_of Try.func62 (by kernel_rfl) rfl
  | 4, _ => enters_of Try.func63 (by kernel_rfl) rfl
  | 5, _ => enters_of Try.func64 (by kernel_rfl) rfl
  | 6, _ => enters_of Try.func65 (by kernel_rfl) rfl
/-- wire.Right's contract. -/
def RetR (c : List Elem) (t : Bool) : Prop := ∀ (w : World) (ok : Nat → Prop) (v : Value), (∀ x, ok x → x < w.heap.size) → RepV w ok (.sl 27 tElem) c v →
    Calls Try.prog 58 #[v] w fun r w' => r = .returned (.bool t) ∧ Below w.heap.size w w'
theorem right_det (c : List Elem) (J : Bool → Prop) (h : wire.Right c J) : ∃ t, J t ∧ RetR c t := by
  have q : wire.Right.F [.tv (.sl 27 tElem) c] (jB J) = wire.Right c J := by kernel_rfl
  obtain ⟨res, hj, hfn⟩ := wire.Right.good.det _ (jB J) (by rw [q]; exact h)
  obtain ⟨t, rfl, ht⟩ := jB_out hj
  refine ⟨t, ht, fun w ok v hok hv => ?_⟩
  refine (hfn [.tv (.sl 27 tElem) c] (fun r => r = [.tv .bool t]) ⟨rfl, rfl⟩ w ok [v] hok rfl ?_).mono ?_
  · intro i x hx
    match i, hx with
    | 0, hx => cases hx; exact ⟨_, rfl, fun _ _ => hv⟩
  · rintro r W' ⟨res, us, u, okr, rfl, rfl, hb, hl, hus, _, hr, _⟩
    obtain ⟨u', hu, hx⟩ := hr 0 _ rfl
    have hx := RepV.bool (hx [] (fun _ => undef))
    match us, hl, hu with
    | [u''], _, hu => cases hu; exact ⟨by rw [hus, hx]; rfl, hb⟩
/-- The rules, as they are told. -/
def chkD (c : List Elem) (stop : Int → Int → Prop) (fin : Prop) : Nat → Nat → Prop
  | 0, _ => fin
  | m + 1, k => chk1 (ruleD k) c (2 + (k : Int)) stop (chkD c stop fin m (k + 1)) c
theorem chk1_to {b b' : (List Elem) → Elem → (Bool → Prop) → Prop} {c : List Elem} {rule : Int} {S : Int → Int → Prop} {go go' : Prop} (hb : ∀ e J, b c e J → ∃ t, J t ∧ ∀ J' : Bool → Prop, J' t → b' c e J') (hg : go → go') : ∀ l, chk1 b c rule S go l → chk1 b' c rule S go' l
  | [], h => hg h
  | e :: r, h => by
    obtain ⟨t, ht, h'⟩ := hb e _ h
    refine h' _ ?_
    cases t
    · exact chk1_to hb hg r ht
    · exact ht
theorem chkA_to (c : List Elem) (S : Int → Int → Prop) (fin : Prop) : ∀ m k, m + k = 7 → chkA c S fin m k → chkD c S fin m k
  | 0, _, _, h => h
  | m + 1, k, hk, h => chk1_to (fun e J hb => by obtain ⟨t, h1, h2⟩ := rule_to k (by omega) c e J hb; exact ⟨t, h1, fun J' hJ => ⟨t, hJ, h2⟩⟩) (chkA_to c S fin m (k + 1) (by omega)) c h
theorem chk1_det {k : Nat} {c : List Elem} {rule : Int} {S : Int → Int → Prop} {go : Prop} : ∀ l, chk1 (ruleD k) c rule S go l → (∃ i, S rule i ∧ ∀ (S' : Int → Int → Prop) (go' : Prop), S' rule i → chk1 (ruleD k) c rule S' go' l) ∨ (go ∧ ∀ (S' : Int → Int → Prop) (go' : Prop), go' → chk1 (ruleD k) c rule S' go' l)
  | [], h => .inr ⟨h, fun _ _ h => h⟩
  | e :: r, h => by
    obtain ⟨t, ht, hr⟩ := h
    cases t
    · rcases chk1_det r ht with ⟨i, h1, h2⟩ | ⟨h1, h2⟩
      · exact .inl ⟨i, h1, fun S' go' hs => ⟨false, h2 S' go' hs, hr⟩⟩
      · exact .inr ⟨h1, fun S' go' hs => ⟨false, h2 S' go' hs, hr⟩⟩
    · exact .inl ⟨e.1, ht, fun S' go' hs => ⟨true, hs, hr⟩⟩
theorem chkD_det (c : List Elem) (S : Int → Int → Prop) (fin : Prop) : ∀ m k, chkD c S fin m k → (∃ r i, S r i ∧ ∀ (S' : Int → Int → Prop) (fin' : Prop), S' r i → chkD c S' fin' m k) ∨ (fin ∧ ∀ (S' : Int → Int → Prop) (fin' : Prop), fin' → chkD c S' fin' m k)
  | 0, _, h => .inr ⟨h, fun _ _ h => h⟩
  | m + 1, k, h => by
    rcases chk1_det c h with ⟨i, h1, h2⟩ | ⟨h1, h2⟩
    · exact .inl ⟨_, i, h1, fun S' fin' hs => h2 S' _ hs⟩
    · rcases chkD_det c S fin m (k + 1) h1 with ⟨r, i, h3, h4⟩ | ⟨h3, h4⟩
      · exact .inl ⟨r, i, h3, fun S' fin' hs => h2 S' _ (h4 S' fin' hs)⟩
      · exact .inr ⟨h3, fun S' fin' hs => h2 S' _ (h4 S' fin' hs)⟩
def CheckD (c : List Elem) (K : Fault → Prop) : Prop := List.length c ≤ 1000000000 ∧ ∃ t, RetR c t ∧ br (!t) (K ((1 : Int), ((0 : Int), ()))) (chkD c (fun r i => K (r, (i, ()))) (K ((0 : Int), ((0 : Int), ()))) 7 0)
theorem check_det (c : List Elem) (K : Fault → Prop) (h : rules.Check c K) : ∃ f, K f ∧ CheckD c (fun r => r = f) := by
  obtain ⟨hl, h⟩ := h
  obtain ⟨t, ht, hr⟩ := right_det c _ h
  cases t
  · exact ⟨_, ht, hl, false, hr, rfl⟩
  · rcases chkD_det c _ _ 7 0 (chkA_to c _ _ 7 0 rfl ht) with ⟨r, i, h1, h2⟩ | ⟨h1, h2⟩
    · exact ⟨(r, i, ()), h1, hl, true, hr, h2 _ _ rfl⟩
    · exact ⟨(0, 0, ()), h1, hl, true, hr, h2 _ _ rfl⟩

/-- The row of rules. -/
def fnV (k : Nat) : Value := .func (.func (59 + k)) #[] #[]
def fnRow : Array Value := #[fnV 0, fnV 1, fnV 2, fnV 3, fnV 4, fnV 5, fnV 6]
theorem fnRow_at : ∀ k, k < 7 → fnRow[k]? = some (fnV k)
  | 0, _ => rfl
  | 1, _ => rfl
  | 2, _ => rfl
  | 3, _ => rfl
  | 4, _ => rfl
  | 5, _ => rfl
  | 6, _ => rfl
theorem load_fn {w : World} {ad : Addr} {v : Value} (h : w.cell? ad = some v) : (loadVar 112 ad).run Try.prog w = .ok v w := by
  have hagg : (isAgg 112).run Try.prog w = .ok false w := by simp [isAgg, underlying, Try.underlying112]
  simp only [loadVar, Sem.run_bind, hagg, Result.andThen_ok, if_false, Bool.false_eq_true, run_load, h]
theorem size_fn (w : World) : (sizeOf 112).run Try.prog w = .ok 1 w := Try.sizeOf112 w
/-- What the walk carries: the chart reads so. -/
theorem rep_later {n₀ : Nat} {w W : World} {ok : Nat → Prop} (hok : ∀ x, ok x → x < n₀) (hb : Below n₀ w W) {c : List Elem} {v : Value} (h : RepV w ok (.sl 27 tElem) c v) : RepV W ok (.sl 27 tElem) c v :=
  by obtain ⟨cs, h, e⟩ := h; exact ⟨cs, Rep.move (fun b hb' => hb.block b (hok b hb')) (fun _ h => h) h, e⟩

def Hold (p : Prop) : Prop := p
theorem hold {p : Prop} (h : Hold p) : p := h
/-- The box of the result. -/
def FBox (W : World) (X : Nat) : Prop := ∃ a b : Value, W.heap[X]? = some (.cells #[a, b] 94 (0, 0))
theorem st_fault {W : World} {X : Nat} (hb : FBox W X) (a b : Int) : (storeVar 94 ⟨X, 0, none⟩ (.agg #[.int .i64 a, .int .i64 b])).run Try.prog W = .ok () (W.setRow X #[.int .i64 a, .int .i64 b]) := by
  obtain ⟨x, y, hb⟩ := hb
  have := storeVar_run (P := Try.prog) (base_ty 94 tFault (by kernel_rfl)) W X 0 _ 94 hb (.agg #[.int .i64 a, .int .i64 b]) [] [x, y] [] (by simp) rfl (by simp; rfl) rfl (by
    intro u hu
    simp [Value.cells] at hu
    rcases hu with rfl | rfl <;> rfl)
  rw [this]; simp [Value.cells]
theorem FBox.later {n : Nat} {W W' : World} {X : Nat} (h : FBox W X) (hb : Below n W W') (hX : X < n) : FBox W' X := by
  obtain ⟨a, b, h⟩ := h; exact ⟨a, b, (hb.block X hX).trans h⟩
theorem fault_out {W : World} {X : Nat} (hb : FBox W X) (a b : Int) (tmps : Array Value) (hp : tmps.getD 2 undef = .pointer (some ⟨X, 0, none⟩)) : (results Try.f42 tmps).run Try.prog (W.setRow X #[.int .i64 a, .int .i64 b]) = .ok (.agg #[.int .i64 a, .int .i64 b]) (W.setRow X #[.int .i64 a, .int .i64 b]) := by
  obtain ⟨x, y, hb⟩ := hb
  exact results_cell_row rfl tmps _ X 94 _ (0, 0) _ hp (setRow_heap W X _ _ _ _ hb) Try.underlying94 rfl (by kernel_rfl)
theorem below_row {n : Nat} {w W : World} {X : Nat} (h : Below n w W) (hX : n ≤ X) (cs : Array Value) : Below n w (W.setRow X cs) := below_setRow h hX cs
theorem cells_at {W : World} {X : Nat} {t : TypeId} {cs : List Value} (h : W.heap[X]? = some (.cells cs.toArray t (0, 0))) (j : Nat) (u : Value) (hu : cs[j]? = some u) : W.cell? ((⟨X, 0, none⟩ : Addr).add j) = some u := by
  rw [Addr.add_mid]
  simp [World.cell?, h, hu]
theorem chk1_cons {b : (List Elem) → Elem → (Bool → Prop) → Prop} {c : List Elem} {rule : Int} {S : Int → Int → Prop} {go : Prop} {e : Elem} {r : List Elem} : chk1 b c rule S go (e :: r) = b c e (fun t => br t (S rule e.1) (chk1 b c rule S go r)) := rfl
theorem chk1_drop {b : (List Elem) → Elem → (Bool → Prop) → Prop} {c : List Elem} {rule : Int} {S : Int → Int → Prop} {go : Prop} {l : List Elem} {j : Nat} (hj : j < l.length) (h : chk1 b c rule S go (l.drop j)) : b c (l[j]?.getD Elem.z) (fun t => br t (S rule (l[j]?.getD Elem.z).1) (chk1 b c rule S go (l.drop (j + 1)))) := by
  rw [List.drop_eq_getElem_cons hj] at h
  rw [List.getElem?_eq_getElem hj]
  exact h
theorem chkA_at {c : List Elem} {S : Int → Int → Prop} {fin : Prop} {k : Nat} (hk : k < 7) (h : chkD c S fin (7 - k) k) : chk1 (ruleD k) c (2 + (k : Int)) S (chkD c S fin (7 - (k + 1)) (k + 1)) c := by
  have e : 7 - k = (7 - (k + 1)) + 1 := by omega
  rw [e] at h
  exact h

set_option maxRecDepth 100000 in
set_option maxHeartbeats 4000000 in
theorem check_in (c : List Elem) (K : Fault → Prop) (hK : CheckD c K) (w : World) (ok : Nat → Prop) (v : Value) (hok : ∀ x, ok x → x < w.heap.size) (hv : RepV w ok (.sl 27 tElem) c v) :
    CallsIn Fence.wide 3 Try.prog 42 #[v] w fun r w' => ∃ f : Fault, K f ∧ r = .returned (.agg #[.int .i64 f.1, .int .i64 f.2.1]) ∧ Below w.heap.size w w' := by
  obtain ⟨hll, t, hK, ht⟩ := hK
  obtain ⟨A, cap, hve, hI⟩ : ∃ A cap, v = .slice A c.length cap ∧ Els w.heap.size w A c := by
    obtain ⟨cs, hcs, he⟩ := hv
    obtain ⟨A, cap, e1, hE⟩ := els_of hok hcs
    refine ⟨A, cap, ?_, hE⟩
    subst e1
    have he : [Value.slice A c.length cap] = [v] := he; cases he; rfl
  have hf58 : Fence.wide.fn 58 := trivial
  have hfk : ∀ k, Fence.wide.fn (59 + k) := fun _ => trivial
  subst hve
  refine callsIn_of_wp Try.func42 rfl trivial ?_ rfl
  simp only [Try.ntmps42, List.size_toArray, List.length_cons, List.length_nil, Nat.reduceAdd, Nat.reduceSub, Array.replicate_succ, Array.replicate_zero, List.push_toArray, List.append_toArray, List.nil_append, List.cons_append]
  have hX0 : FBox (w.alloc (Obj.cells #[Value.int IntKind.i64 0, Value.int IntKind.i64 0] 94)) w.heap.size := ⟨_, _, World.alloc_heap_new w _⟩
  gi_wp2_with (first | (gi_at_call 58; refine (callsIn_wide.2 (hK _ ok _ (fun x hx => by have := hok x hx; simp; omega) (rep_later hok ((Below.refl _ w).alloc (Nat.le_refl _) _) hv))).mono ?_; rintro e w1 ⟨rfl, hb1⟩; have hX1 := hX0.later hb1 (by simp)) | (with_reducible show wpListIn _ _ _ _ _ _ _ _; refine in_store rfl rfl rfl rfl (st_fault hX1 1 0) ?_))
  · refine bodyPost_ret (fault_out hX1 1 0 _ rfl) rfl ?_
    have e : (!t) = true := by assumption
    rw [e] at ht
    exact ⟨_, ht, rfl, below_row ((Below.refl _ w).alloc (Nat.le_refl _) _ |>.trans (hb1.mono (by simp))) (Nat.le_refl _) _⟩
  · have e : (!t) = false := by assumption
    rw [e] at ht
    have hA : chkD c (fun r i => K (r, i, ())) (K (0, 0, ())) (7 - 0) 0 := ht
    have hbw : Below w.heap.size w w1 := (Below.refl _ w).alloc (Nat.le_refl _) _ |>.trans (hb1.mono (by simp))
    have hlt1 : w.heap.size < w1.heap.size := by have := hb1.size; simp at this; omega
    obtain ⟨W1, hW1⟩ : ∃ W1, w1.alloc (.cells fnRow 112) = W1 := ⟨_, rfl⟩
    have hR : W1.heap[w1.heap.size]? = some (.cells fnRow 112 (0, 0)) := by rw [← hW1]; exact World.alloc_heap_new w1 _
    have hbW : Below w.heap.size w W1 := by rw [← hW1]; exact hbw.alloc (by omega) _
    have hXW : FBox W1 w.heap.size := by rw [← hW1]; exact hX1.later ((Below.refl w1.heap.size w1).alloc (Nat.le_refl _) _) hlt1
    have hRl : w1.heap.size < W1.heap.size := (Array.getElem?_eq_some_iff.1 hR).1
    show Code.wpIn Fence.wide 3 Try.prog _ _ _ (w1.alloc (.cells fnRow 112))
    rw [hW1]
    clear hW1 hX1 hb1 hX0 ht hK
    cases t with
    | false => simp at e
    | true =>
    clear e
    simp only [Bool.not_true]
    obtain ⟨S, hS⟩ : ∃ S : Int → Int → Prop, (fun r i => K (r, i, ())) = S := ⟨_, rfl⟩
    rw [hS] at hA
    gi_loopw [13] (fun i wr => ∃ k : Nat, k ≤ 7 ∧ i = .int .i64 k ∧ chkD c S (K (0, 0, ())) (7 - k) k ∧ Below W1.heap.size W1 wr)
      (fun i _ => 7 - (RowKit.intOf i).toNat)
    case atStart => exact ⟨0, by omega, rfl, hA, Below.refl _ _⟩
    case round =>
      clear hA
      obtain ⟨k, hk, rfl, hA, hbr⟩ := hrel
      by_cases hlt : k < 7
      · have hC := chkA_at hlt hA
        clear hA
        have hs112 : (sizeOf 112).run Try.prog wr = .ok 1 wr := size_fn wr
        have hcell : wr.cell? ((⟨w1.heap.size, 0, none⟩ : Addr).add (k * 1)) = some (.func (.func (59 + k)) #[] #[]) := by
          rw [Nat.mul_one]
          exact cells_at (cs := fnRow.toList) ((hbr.block _ hRl).trans hR) k _ (by show fnRow.toList[k]? = some (fnV k); simpa using fnRow_at k hlt)
        gi_wp2_with (with_reducible show wpListIn _ _ _ _ _ _ _ _; first | refine in_idx rfl rfl Try.underlying113 hs112 rfl rfl hlt ?_ | refine in_load rfl rfl rfl (load_fn hcell) ?_)
        clear hcell hs112
        have hrn := rule_enter k hlt
        have hfn := hfk k
        gi_loopw [20] (fun i wq => ∃ q : Nat, q ≤ c.length ∧ i = .int .i64 q ∧ chk1 (ruleD k) c (2 + (k : Int)) S (chkD c S (K (0, 0, ())) (7 - (k + 1)) (k + 1)) (c.drop q) ∧ Below W1.heap.size W1 wq)
          (fun i _ => c.length - (RowKit.intOf i).toNat)
        case atStart => exact ⟨0, Nat.zero_le _, rfl, hC, hbr⟩
        case round =>
          clear hC hbr
          obtain ⟨q, hq, rfl, hC, hbr⟩ := hrel
          have hs1 := hbr.size
          have hbwr : Below w.heap.size w wr := hbW.trans (hbr.mono hbW.size)
          by_cases hlq : q < c.length
          · rcases (hI.below hbwr) with rfl | ⟨ad, rfl, hb, hc⟩
            · simp at hlq
            have hs27 : (sizeOf 27).run Try.prog wr = .ok 10 wr := sizeOf_run (base_ty 27 tElem (by kernel_rfl))
            have hcx : ∀ (j : Nat) (u : Value), (cL (c[q]?.getD Elem.z))[j]? = some u → wr.cell? ((ad.add (q * 10)).add j) = some u := fun j u hu => by
              rw [add_add]; exact hc q hlq j u hu
            have hC := chk1_drop hlq hC
            obtain ⟨x, hX⟩ : ∃ x, c[q]?.getD Elem.z = x := ⟨_, rfl⟩
            rw [hX] at hcx hC
            clear hX
            have hbox : (wr.alloc (.cells (cL x).toArray 27)).heap[wr.heap.size]? = some (.cells (cL x).toArray 27 (0, 0)) := World.alloc_heap_new wr _
            have hba : Below W1.heap.size W1 (wr.alloc (.cells (cL x).toArray 27)) := hbr.alloc hs1 _
            gi_wp2_with (first | (with_reducible show wpListIn _ _ _ _ _ _ _ _; first | refine in_idx rfl rfl Try.underlying24 hs27 rfl rfl hlq ?_ | refine in_load rfl rfl rfl (load_elem hcx) ?_ | refine in_store rfl rfl rfl rfl (st_elem_new _ _ rfl x) ?_ | refine in_load rfl rfl rfl (load_elem (cells_at hbox)) ?_))
            obtain ⟨t2, ht2, hrt⟩ := hC
            refine (callsIn_wide.2 (hrt _ ok _ (fun y hy => by have := hok y hy; have := hba.size; have := hbW.size; omega) (rep_later hok (hbW.trans (hba.mono hbW.size)) hv))).mono ?_
            rintro e w2 ⟨rfl, hb2⟩
            have hbox2 := (hb2.block wr.heap.size (by simp)).trans hbox
            have hb3 : Below W1.heap.size W1 w2 := hba.trans (hb2.mono hba.size)
            have hX2 := hXW.later hb3 (by omega)
            have hnum := load_num (cells_at (cs := cL x) hbox2 0 _ rfl)
            gi_wp2_with (with_reducible show wpListIn _ _ _ _ _ _ _ _; first | refine in_load rfl rfl rfl hnum ?_ | (with_reducible show wpListIn _ _ _ _ _ [_] _ _; with_reducible refine hold ?_))
            unfold Hold
            · refine in_store rfl rfl rfl rfl (st_fault hX2 (2 + k) x.1) ?_
              have e2 : t2 = true := by assumption
              rw [e2] at ht2
              gi_wp2
              refine bodyPost_ret (fault_out hX2 (2 + k) x.1 _ rfl) rfl ?_
              rw [← hS] at ht2
              exact ⟨_, ht2, rfl, below_row (hbW.trans (hb3.mono hbW.size)) (Nat.le_refl _) _⟩
            · have e2 : t2 = false := by assumption
              rw [e2] at ht2
              refine ⟨⟨q + 1, by omega, by simp, ht2, hb3⟩, ?_⟩
              simp [RowKit.intOf]
              omega
          · have : q = c.length := by omega
            subst this
            rw [List.drop_length] at hC
            gi_wp2
            go_roundw
            case rel => exact ⟨k + 1, by omega, by simp, hC, hbr⟩
            case measure => simp [RowKit.intOf]; omega
      · have : k = 7 := by omega
        subst this
        have hX3 := hXW.later hbr (by omega)
        gi_wp2_with (with_reducible show wpListIn _ _ _ _ _ _ _ _; refine in_store rfl rfl rfl rfl (st_fault hX3 0 0) ?_)
        refine bodyPost_ret (fault_out hX3 0 0 _ rfl) rfl ?_
        exact ⟨_, hA, rfl, below_row (hbW.trans (hbr.mono hbW.size)) (Nat.le_refl _) _⟩
end Go.Iw.Ck
