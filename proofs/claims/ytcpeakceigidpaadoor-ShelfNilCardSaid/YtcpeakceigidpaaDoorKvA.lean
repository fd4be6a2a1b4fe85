/- Operations proved against the model, fifth part: pieces, conversions, lengths, rows made and grown. -/
import Derived.Test.YtcpeakceigidpaaDoorKv9
import Derived.Laws.OwnMore
set_option linter.all false
namespace Go.Iv
open Go.RowKit
variable [GL]
section
variable {P : Program} {cx : Cx} {w0 : Bas} {w : World} {ok0 ok : Nat → Prop} {m : Nat → Value} {st : St} {a : Act} {o : Oper} {K : St → Prop} {Q : Exit → Act → World → Prop}
theorem RepL.take_drop {α : Type} {R : α → List Value → Prop} {s : Nat} (h : ∀ x c, R x c → c.length = s) {xs : List α} {cs : List Value} (k : RepL R xs cs) {l n : Nat} (hl : l ≤ n) (hn : n ≤ xs.length) :
 ∃ c d e, cs = c ++ d ++ e ∧ c.length = l * s ∧ RepL R ((xs.take n).drop l) d := by
 have e1 : xs = (xs.take n).take l ++ (xs.take n).drop l ++ xs.drop n := by rw [List.take_append_drop, List.take_append_drop]
 rw [e1] at k
 obtain ⟨cd, e, rfl, k1, _⟩ := RepL.split k
 obtain ⟨c, d, rfl, k2, k3⟩ := RepL.split k1
 exact ⟨c, d, e, rfl, by rw [RepL.len h k2]; congr 1; simp; omega, k3⟩
theorem bound_run {d : Int} {a : Option AV0} {J : Int → Prop} (h : boundA d a J) : (a = none ∧ J d) ∨ ∃ k n, a = some (.tv (.int k) n) ∧ J n := by
 unfold boundA at h
 split at h
 · exact .inl ⟨rfl, h⟩
 · rename_i k n; exact .inr ⟨k, n, rfl, h⟩
 · exact h.elim
theorem bound_val (r : Rel w0 m ok st a w) {l : Option Operand} : (l.map fun l => (opA cx st 0 l).ro st.hp) = none → l.map a.eval = none := by
 cases l <;> simp
theorem bound_int (r : Rel w0 m ok st a w) {l : Option Operand} {k : IntKind} {n : Int} (h : (l.map fun l => (opA cx st 0 l).ro st.hp) = some (.tv (.int k) n)) : l.map a.eval = some (.int k n) := by
 cases l with
 | none => simp at h
 | some x =>
  simp only [Option.map_some, Option.some.injEq] at h ⊢
  have := roV_rep (hp' := st.hp) r (ok' := fun _ => True) (fun _ _ => trivial) (fun _ _ h => h) (fun _ _ _ _ _ _ => trivial) (r.op cx 0 x)
  rw [h] at this
  exact RepV.int this
theorem sliceBounds_run {isS : Bool} {len cap : Nat} {lo hi : Option Value} {l h : Int} (hlo : (lo = none ∧ l = 0) ∨ ∃ k, lo = some (.int k l)) (hhi : (hi = none ∧ h = (len : Int)) ∨ ∃ k, hi = some (.int k h)) (h0 : 0 ≤ l) (h1 : l ≤ h) (h2 : h ≤ (len : Int)) (h3 : len ≤ cap) :
 (Instr.sliceBounds isS len cap lo hi none).run P w = .ok (l.toNat, h.toNat, cap) w := by
 have a1 : 0 ≤ h ∧ h ≤ ((cap : Nat) : Int) := ⟨by omega, by omega⟩
 have a2 : 0 ≤ l ∧ l ≤ ((h.toNat : Nat) : Int) := ⟨by omega, by omega⟩
 unfold Instr.sliceBounds
 rcases hhi with ⟨rfl, rfl⟩ | ⟨k, rfl⟩ <;> rcases hlo with ⟨rfl, rfl⟩ | ⟨k', rfl⟩
 · simp
 · have a3 : 0 ≤ l ∧ l ≤ ((len : Nat) : Int) := ⟨h0, h1⟩
   simp only [Instr.sliceBound, asIntOf, Sem.run_bind, Sem.run_pure, Result.andThen_ok, Sem.run_ite, if_pos a3, Int.toNat_natCast]
 · simp only [Instr.sliceBound, asIntOf, Sem.run_bind, Sem.run_pure, Result.andThen_ok, Sem.run_ite, if_pos a1, Int.toNat_zero]
 · simp only [Instr.sliceBound, asIntOf, Sem.run_bind, Sem.run_pure, Result.andThen_ok, Sem.run_ite, if_pos a1, if_pos a2]
theorem op_arr (h : Here P cx w0 ok0 m ok st a w) {T : TypeId} {x : Operand} {b : Bool} (ho : o.op = .slice T x none none none) (hk : one (opA cx st T x) fun x => arsA cx st T o.type b o.dst x K) : o.wp P a w (Nxt w0 ok0 K) Q := by
 unfold one at hk
 split at hk
 rotate_left
 · exact hk.elim
 rename_i p hp
 have hx := h.r.op cx T x
 rw [hp] at hx
 replace hx : RepA0 w ok m st.hp p (a.eval x) := hx
 clear hp
 have run : ∀ {n : Nat} {t : Ty} {ad : Addr}, cx.ty T = some (.arr n t) → a.eval x = .pointer (some ad) → (execOp a.eval o).run P w = .ok (.value (.slice (some ad) n n)) w := by
  intro n t ad ht e
  obtain ⟨⟨e0, hu, hTe⟩, _⟩ := h.cx.ty T _ ht
  have := sliceBounds_run (P := P) (w := w) (isS := false) (len := n) (cap := n) (lo := none) (hi := none) (l := 0) (h := (n : Int)) (.inl ⟨rfl, rfl⟩) (.inl ⟨rfl, rfl⟩) (by omega) (by omega) (by omega) (Nat.le_refl _)
  have ha : ∀ q : Nat, (if n = 0 then ad else ad.add (0 * q)) = ad := by intro q; simp [Addr.add]
  simp only [execOp, ho, e, Instr.sliceAt, Instr.sureAddr, Option.map_none, Sem.run_bind, Sem.run_pure, run_underlying hu, Result.andThen_ok, this, sizeOf_run hTe, Int.toNat_zero, Int.toNat_natCast, Nat.sub_zero, ha]
 revert hx
 unfold arsA at hk
 split at hk
 · rename_i n t e t1 t' xs hT hR
   intro hx
   obtain ⟨rfl, hk1⟩ := stat_dec hk
   clear hk
   split at hk1
   · rename_i xs' hc
     obtain ⟨ad, cs, hv, hok, hr, hcell⟩ := hx
     obtain ⟨hlen, hl⟩ := cast?_rep hc hr
     have hlen' : xs'.length = n := hlen
     refine h.val (x := .v (.tv (.sl e t1) xs')) (v := .slice (some ad) n n) ⟨_, ⟨some ad, n, cs, by rw [hlen'], by omega, .inr ⟨ad, rfl, hok, hcell⟩, hl⟩, by simp [Ty.isAgg]⟩ (run hT hv) hk1
   · exact hk1.elim
 · rename_i n t e t1 id off hT hR
   intro hx
   obtain ⟨rfl, hk1⟩ := stat_dec hk
   clear hk
   split at hk1
   · rename_i T0 bt x0 hf
     split at hk1
     · rename_i xs hg
       obtain ⟨b0, hm, hv⟩ := hx _ _ _ hf
       cases b with
       | true =>
        rw [cond_true] at hk1
        exact h.val (x := .v (.wbx id off n e t1)) (v := .slice (some ⟨b0, off, none⟩) n n) (fun T' t' x' hf' => ⟨b0, hm, rfl⟩) (run hT hv) hk1
       | false =>
        rw [cond_false] at hk1
        obtain ⟨ok', ⟨g1, g2, g3⟩, r'⟩ := h.r.drop id hf
        have h' : Here P cx w0 ok0 m ok' (st.drop id) a w := ⟨h.cx, r', fun b hb => (g2 b hb).elim (h.f b) .inr⟩
        exact h'.val (x := .v (.tv (.sl e t1) xs)) (v := .slice (some ⟨b0, off, none⟩) n n) (arr_reads (h.r.ob id _ hf) hm hg g1 (g3 _ (by rw [hm]; rfl))).1 (run hT hv) hk1
     · exact hk1.elim
   · exact hk1.elim
 · exact hk.elim
theorem op_slice0 (h : Here P cx w0 ok0 m ok st a w) {T : TypeId} {x : Operand} {lo hi : Option Operand} (ho : o.op = .slice T x lo hi none) (hk : one (opA cx st T x) fun x => match winQ (cx.win (o.dst.getD 0)) x with
 | some id => subA cx st T id (lo.map fun l => (opA cx st 0 l).ro st.hp) (hi.map fun h => (opA cx st 0 h).ro st.hp) fun v => K (st.put o.dst (.v v))
 | none => sliceA cx T (x.ro st.hp) (lo.map fun l => (opA cx st 0 l).ro st.hp) (hi.map fun h => (opA cx st 0 h).ro st.hp) fun v => K ((freezes st x.ids).put o.dst (.v v))) : o.wp P a w (Nxt w0 ok0 K) Q := by
 unfold one at hk
 split at hk
 · rename_i p hp
   have hx := h.r.op cx T x
   rw [hp] at hx
   replace hx : RepA0 w ok m st.hp p (a.eval x) := hx
   clear hp
   split at hk
   · rename_i id hw
     have hp : p = .row id := by
      unfold winQ at hw
      split at hw
      · rename_i j
        cases hb : cx.win (o.dst.getD 0) with
        | true => rw [hb] at hw; cases hw; rfl
        | false => rw [hb] at hw; cases hw
      · cases hw
     subst hp
     have blo := fun k n => bound_int (cx := cx) (l := lo) (k := k) (n := n) h.r
     have bhi := fun k n => bound_int (cx := cx) (l := hi) (k := k) (n := n) h.r
     have nlo := bound_val (cx := cx) (l := lo) h.r
     have nhi := bound_val (cx := cx) (l := hi) h.r
     generalize (lo.map fun l => (opA cx st 0 l).ro st.hp) = alo at hk blo nlo
     generalize (hi.map fun l => (opA cx st 0 l).ro st.hp) = ahi at hk bhi nhi
     unfold subA at hk
     split at hk
     · rename_i e t e' t' xs hT hf
       obtain ⟨e1, hk1⟩ := stat_nat hk
       clear hk
       obtain ⟨e2, hk⟩ := stat_dec hk1
       clear hk1
       subst e1 e2
       have hT := h.cx.ty T _ hT
       have hv : a.eval x = m id := hx _ _ _ hf
       obtain ⟨inner, hown, _⟩ := h.r.ob id _ hf
       obtain ⟨A, c, hval, hle, hA⟩ : ∃ A c, a.eval x = .slice A xs.length c ∧ xs.length ≤ c ∧ (xs.length = 0 ∨ ∃ b, A = some ⟨b, 0, none⟩) := by
        rcases hown.2 with ⟨e, hn⟩ | ⟨g, cap, cur, e, _, _, hle, _⟩
        · exact ⟨none, 0, by rw [hv, e, hn], by omega, .inl hn⟩
        · exact ⟨_, cap, by rw [hv, e], hle, .inr ⟨g, rfl⟩⟩
       have main : ∀ (hh l : Int), ((hi.map a.eval = none ∧ hh = (xs.length : Int)) ∨ ∃ k, hi.map a.eval = some (.int k hh)) → ((lo.map a.eval = none ∧ l = 0) ∨ ∃ k, lo.map a.eval = some (.int k l)) → (0 ≤ hh ∧ hh ≤ (xs.length : Int)) → (0 ≤ l ∧ l ≤ hh) → K (st.put o.dst (.v (.sub id l.toNat (hh.toNat - l.toNat)))) → o.wp P a w (Nxt w0 ok0 K) Q := by
        intro hh l b1 b2 g1 g2 hk
        refine h.val (x := .v (.sub id l.toNat (hh.toNat - l.toNat))) (v := .slice (if c = l.toNat then A else A.map (·.add (l.toNat * t'.size))) (hh.toNat - l.toNat) (c - l.toNat)) ?_ ?_ hk
        · intro e2 t2 xs2 hf2
          rw [hf] at hf2; cases hf2
          by_cases hz : hh.toNat - l.toNat = 0
          · exact .inl ⟨hz, _, _, by rw [hz]⟩
          · rcases hA with h0 | ⟨b, rfl⟩
            · omega
            · refine .inr ⟨b, xs.length, c, c - l.toNat, by rw [← hv, hval], ?_⟩
              rw [if_neg (by omega)]
              simp only [Option.map_some, Addr.add_mid, Nat.zero_add]
        · have := sliceBounds_run (P := P) (w := w) (isS := true) (len := xs.length) (cap := c) b2 b1 g2.1 g2.2 g1.2 hle
          simp only [execOp, ho, hval, Instr.sliceAt, Sem.run_bind, run_underlying hT.1, Result.andThen_ok, Instr.slice, Option.map_none, this, sizeOf_run (show TyP P t' e' from hT.2.1), Sem.run_pure]
       rcases bound_run hk with ⟨e1, g1, hk⟩ | ⟨k1, n1, e1, g1, hk⟩ <;> rcases bound_run hk with ⟨e2, g2, hk⟩ | ⟨k2, n2, e2, g2, hk⟩
       · exact main _ _ (.inl ⟨nhi e1, rfl⟩) (.inl ⟨nlo e2, rfl⟩) g1 g2 hk
       · exact main _ _ (.inl ⟨nhi e1, rfl⟩) (.inr ⟨k2, blo k2 n2 e2⟩) g1 g2 hk
       · exact main _ _ (.inr ⟨k1, bhi k1 n1 e1⟩) (.inl ⟨nlo e2, rfl⟩) g1 g2 hk
       · exact main _ _ (.inr ⟨k1, bhi k1 n1 e1⟩) (.inr ⟨k2, blo k2 n2 e2⟩) g1 g2 hk
     · exact hk.elim
   rename_i hnw
   clear hnw
   obtain ⟨ok', ⟨h1, h2, h3⟩, h'⟩ := h.frozen p.ids
   have hv := ro_rep h.r h1 h3 h2 hx
   have blo := fun k n => bound_int (cx := cx) (l := lo) (k := k) (n := n) h.r
   have bhi := fun k n => bound_int (cx := cx) (l := hi) (k := k) (n := n) h.r
   have nlo := bound_val (cx := cx) (l := lo) h.r
   have nhi := bound_val (cx := cx) (l := hi) h.r
   generalize AV0.ro st.hp p = q at hk hv
   generalize (lo.map fun l => (opA cx st 0 l).ro st.hp) = alo at hk blo nlo
   generalize (hi.map fun l => (opA cx st 0 l).ro st.hp) = ahi at hk bhi nhi
   revert hv
   unfold sliceA at hk
   split at hk
   · rename_i s ht
     intro hv
     have hT := h.cx.ty T _ ht
     have hs : a.eval x = .string s := RepV.str hv
     have main : ∀ (hh l : Int), ((hi.map a.eval = none ∧ hh = (s.size : Int)) ∨ ∃ k, hi.map a.eval = some (.int k hh)) → ((lo.map a.eval = none ∧ l = 0) ∨ ∃ k, lo.map a.eval = some (.int k l)) → (0 ≤ hh ∧ hh ≤ (s.size : Int)) → (0 ≤ l ∧ l ≤ hh) → K ((freezes st p.ids).put o.dst (.v (.tv .str (s.extract l.toNat hh.toNat)))) → o.wp P a w (Nxt w0 ok0 K) Q := by
      intro hh l b1 b2 g1 g2 hk
      refine h'.val (x := .v (.tv .str _)) (v := .string (s.extract l.toNat hh.toNat)) RepV.of_str ?_ hk
      have := sliceBounds_run (P := P) (w := w) (isS := false) (len := s.size) (cap := s.size) b2 b1 g2.1 g2.2 g1.2 (Nat.le_refl _)
      simp only [execOp, ho, hs, Instr.sliceAt, Sem.run_bind, run_underlying hT.1, Result.andThen_ok, Instr.slice, Option.map_none, Option.isSome_none, Bool.false_eq_true, if_false, Sem.run_ite, Sem.run_pure, this]
     rcases bound_run hk with ⟨e1, g1, hk⟩ | ⟨k1, n1, e1, g1, hk⟩ <;> rcases bound_run hk with ⟨e2, g2, hk⟩ | ⟨k2, n2, e2, g2, hk⟩
     · exact main _ _ (.inl ⟨nhi e1, rfl⟩) (.inl ⟨nlo e2, rfl⟩) g1 g2 hk
     · exact main _ _ (.inl ⟨nhi e1, rfl⟩) (.inr ⟨k2, blo k2 n2 e2⟩) g1 g2 hk
     · exact main _ _ (.inr ⟨k1, bhi k1 n1 e1⟩) (.inl ⟨nlo e2, rfl⟩) g1 g2 hk
     · exact main _ _ (.inr ⟨k1, bhi k1 n1 e1⟩) (.inr ⟨k2, blo k2 n2 e2⟩) g1 g2 hk
   · rename_i e t e' t' xs ht
     intro hv
     split at hk
     · rename_i xs' hc
       have hT := h.cx.ty T _ ht
       have rv := cast?_repV hc hv
       obtain ⟨A, c, inner, hval, hle, hm, hl⟩ := rv.sl
       have main : ∀ (hh l : Int), ((hi.map a.eval = none ∧ hh = (xs'.length : Int)) ∨ ∃ k, hi.map a.eval = some (.int k hh)) → ((lo.map a.eval = none ∧ l = 0) ∨ ∃ k, lo.map a.eval = some (.int k l)) → (0 ≤ hh ∧ hh ≤ (xs'.length : Int)) → (0 ≤ l ∧ l ≤ hh) → K ((freezes st p.ids).put o.dst (.v (.tv (.sl e t) ((xs'.take hh.toNat).drop l.toNat)))) → o.wp P a w (Nxt w0 ok0 K) Q := by
        intro hh l b1 b2 g1 g2 hk
        have hlen : ((xs'.take hh.toNat).drop l.toNat).length = hh.toNat - l.toNat := by
         rw [List.length_drop, List.length_take, Nat.min_eq_left (by omega)]
        refine h'.val (x := .v (.tv (.sl e t) ((xs'.take hh.toNat).drop l.toNat))) (v := .slice (if c = l.toNat then A else A.map (·.add (l.toNat * t.size))) (hh.toNat - l.toNat) (c - l.toNat)) ?_ ?_ hk
        · show RepV w ok' (.sl e t) _ _
          obtain ⟨c1, d, e1, hcs, hlc, hr⟩ := RepL.take_drop (s := t.size) (fun x c r => Rep.len r) hl (l := l.toNat) (n := hh.toNat) (by omega) (by omega)
          rw [← hlen]
          refine RepV.of_sl (by omega) ?_ hr
          by_cases hz : (xs'.take hh.toNat).drop l.toNat = []
          · exact .inl hz
          · refine .inr ?_
            have hpos : 0 < hh.toNat - l.toNat := by
             rw [← hlen]; exact List.length_pos_iff.2 hz
            rcases hm with rfl | ⟨ad, rfl, hok, hcell⟩
            · simp at hz
            · refine ⟨ad.add (l.toNat * t.size), by rw [if_neg (by omega)]; rfl, by rw [add_block]; exact hok, fun j u hu => ?_⟩
              rw [add_add]
              refine hcell _ _ ?_
              rw [hcs, ← hlc]
              have hj := (List.getElem?_eq_some_iff.1 hu).1
              rw [List.getElem?_append_left (by simp; omega), List.getElem?_append_right (by omega)]
              simpa using hu
        · have := sliceBounds_run (P := P) (w := w) (isS := true) (len := xs'.length) (cap := c) b2 b1 g2.1 g2.2 g1.2 hle
          simp only [execOp, ho, hval, Instr.sliceAt, Sem.run_bind, run_underlying hT.1, Result.andThen_ok, Instr.slice, Option.map_none, this, sizeOf_run (show TyP P t e from hT.2.1), Sem.run_pure]
       rcases bound_run hk with ⟨e1, g1, hk⟩ | ⟨k1, n1, e1, g1, hk⟩ <;> rcases bound_run hk with ⟨e2, g2, hk⟩ | ⟨k2, n2, e2, g2, hk⟩
       · exact main _ _ (.inl ⟨nhi e1, rfl⟩) (.inl ⟨nlo e2, rfl⟩) g1 g2 hk
       · exact main _ _ (.inl ⟨nhi e1, rfl⟩) (.inr ⟨k2, blo k2 n2 e2⟩) g1 g2 hk
       · exact main _ _ (.inr ⟨k1, bhi k1 n1 e1⟩) (.inl ⟨nlo e2, rfl⟩) g1 g2 hk
       · exact main _ _ (.inr ⟨k1, bhi k1 n1 e1⟩) (.inr ⟨k2, blo k2 n2 e2⟩) g1 g2 hk
     · exact hk.elim
   · exact hk.elim
 · exact hk.elim
theorem op_slice (h : Here P cx w0 ok0 m ok st a w) {T : TypeId} {x : Operand} {lo hi : Option Operand} (ho : o.op = .slice T x lo hi none) (hk : aop cx o K st) : o.wp P a w (Nxt w0 ok0 K) Q := by
 unfold aop at hk
 rw [ho] at hk
 simp only at hk
 cases hb : isArr (cx.ty T) && lo.isNone && hi.isNone with
 | true =>
  rw [hb, cond_true] at hk
  simp only [Bool.and_eq_true, Option.isNone_iff_eq_none] at hb
  obtain ⟨⟨_, rfl⟩, rfl⟩ := hb
  exact op_arr h ho hk
 | false =>
  rw [hb, cond_false] at hk
  exact op_slice0 h ho hk
end
end Go.Iv
