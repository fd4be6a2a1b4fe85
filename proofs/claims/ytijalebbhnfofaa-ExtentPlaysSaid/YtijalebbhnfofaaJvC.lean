/- Operations proved against the model, seventh part: what the builtins do. -/
import Derived.Test.YtijalebbhnfofaaJvB
namespace Go.Iv
open Go.RowKit
set_option linter.unusedVariables false
set_option linter.unusedSimpArgs false

section
variable {P : Program} {cx : Cx} {w0 : Bas} {w : World} {ok0 ok : Nat → Prop} {m : Nat → Value} {st : St} {a : Act} {o : Oper} {K : St → Prop} {Q : Exit → Act → World → Prop}

theorem blk_own {v : Value} (h : ∃ A n c, v = .slice A n c) : v.ownBlock = blk v := by
  obtain ⟨A, n, c, rfl⟩ := h
  cases A <;> rfl

/-- append: the new row, and where it lies. -/
theorem append_run {t e : TypeId} {i : TypeInfo} {z : Value} (ty : TypeId) (ht : P.underlying t = some (.slice e)) (hi : P.info? e = some i) (hz : i.zero = some z) (hzs : z.cells.size = i.size) (hsz : 0 < i.size)
    {v : Value} {n : Nat} {xs : List Value} (hown : w.ownsRow 0 e i.size v n xs) {A : Option Addr} {k c : Nat} {news : List Value} (hl : news.length = k * i.size) (hA : (A = none ∧ k = 0) ∨ ∃ ad, A = some ad ∧ ∀ (j : Nat) (u : Value), news[j]? = some u → w.cell? (ad.add j) = some u) (h1 : ∀ u ∈ news, u.oneCell' = true)
    (h63 : n + k ≤ maxLen) (hbytes : (n + k) * i.bytes ≤ 140737488355328) :
    ∃ v' w', (Builtin.append_ #[t, t] ty #[v, .slice A k c]).run P w = .ok v' w' ∧ w'.ownsRow 0 e i.size v' (n + k) (xs ++ news) ∧ w.grownBy w' v.ownBlock ∧ (∀ b, blk v' = some b → blk v = some b ∨ w.heap.size ≤ b) := by
  rcases hA with ⟨rfl, rfl⟩ | ⟨ad, rfl, hnews⟩
  · have : news = [] := List.eq_nil_of_length_eq_zero (by simpa using hl)
    subst this
    refine ⟨v, w, ?_, by simpa using hown, ⟨rfl, rfl, rfl, Nat.le_refl _, fun _ _ _ => rfl⟩, fun b h => .inl h⟩
    rcases hown.2 with ⟨rfl, rfl⟩ | ⟨g, cap, cur, rfl, _, _, hnc, _⟩
    · simp [Builtin.append_, run_underlying ht, sizeOf, typeInfo, hi, Builtin.lenOf, Builtin.firstCells]
    · simp [Builtin.append_, run_underlying ht, sizeOf, typeInfo, hi, Builtin.lenOf, Builtin.firstCells, hnc, storeCells]
  · have hsmall : n + k ≤ 9223372036854775807 := by simp only [maxLen] at h63; omega
    obtain ⟨v', w', hr, h2, h3, h4⟩ := run_append_own (P := P) w 0 t ty e i z i.size i.bytes ht hi hz rfl rfl hzs hsz v n xs hown ad k c news hl hnews h1 h63 hbytes (Nat.zero_le _)
    refine ⟨v', w', hr, h2, h3, ?_⟩
    rcases hown.2 with ⟨rfl, rfl⟩ | ⟨g, cap, cur, rfl, hbg, hg, hnc, hcm, hcs, htake⟩
    · by_cases hm : k = 0
      · have := h4.2 ⟨rfl, hm⟩
        subst this
        intro b h; simp [blk] at h
      · have hr' := run_append_nil (P := P) w t ty e i z ht hi hz ad k c news hl hnews (by omega) (by omega) (by have hb := hbytes; simp only [Nat.zero_add] at hb; omega)
        rw [hr] at hr'
        cases hr'
        intro b h; simp [blk] at h; right; omega
    · by_cases hroom : n + k ≤ cap
      · have hfit : n * i.size + news.length ≤ cur.size := by rw [hl, hcs, ← Nat.add_mul]; exact Nat.mul_le_mul_right _ hroom
        have hr' := run_append_room (P := P) w t ty e i ht hi g n cap cur hg ad k c news hl hnews h1 hroom hfit
        rw [hr] at hr'
        cases hr'
        intro b h; left; exact h
      · have holds : ∀ (j : Nat) (u : Value), xs[j]? = some u → w.cell? ((⟨g, 0, none⟩ : Addr).add j) = some u := World.ownsRow.cells (g := g) hown rfl
        have hr' := run_append_grow (P := P) w t ty e i z ht hi hz ⟨g, 0, none⟩ n cap xs hown.1 holds ad k c news hl hnews (by omega) (by omega) (growslice_fits (by omega) hbytes)
        rw [hr] at hr'
        cases hr'
        intro b h; simp [blk] at h; right; omega

theorem args_two {α : Type} {xs : Array α} {x y : α} (h : xs.toList = [x, y]) : xs = #[x, y] := by
  apply Array.ext'; simpa using h
theorem args_one {α : Type} {xs : Array α} {x : α} (h : xs.toList = [x]) : xs = #[x] := by
  apply Array.ext'; simpa using h

/-- A row that grew: the object's new name is the slot. -/
theorem Here.grown (h : Here P cx w0 ok0 m ok st a w) {d : Nat} {e : TypeId} {t : Ty} {zs : List t.D} {v v' : Value} {w' : World} {inner : List Value}
    (hg : w.grownBy w' v.ownBlock) (hvs : v.ownBlock = blk v) (hown : w'.ownsRow 0 e t.size v' zs.length inner) (hr : RepL (Rep w ok t) zs inner)
    (hb : ∀ b, blk v' = some b → blk v = some b ∨ w.heap.size ≤ b)
    (hv : ∀ b, blk v = some b → ¬ ok b ∧ w0.fr b ∧ b < w.heap.size ∧ ∀ id o', fnd id st.hp = some o' → blk (m id) ≠ some b) :
    Nxt w0 ok0 (fun s => s = st.mk_ d (.row e t zs) (.row d)) (a.put (some d) v') w' := by
  rw [hvs] at hg
  have hok : ∀ b, ok b → w'.heap[b]? = w.heap[b]? := fun b hb => hg.block b (h.r.okb b hb) (fun e => (hv b e.symm).1 hb)
  have hw := h.r.world (w' := w') (ok' := ok) hok (fun id ob b ho hb' => hg.block b (h.r.sep id ob b ho hb').2.2 (fun e => (hv b e.symm).2.2.2 id ob ho hb')) hg.size
    ⟨hg.os.trans h.r.keep.os, hg.tape.trans h.r.keep.tape, hg.output.trans h.r.keep.output, Nat.le_trans h.r.keep.size hg.size, fun k hk hx => by
      rw [hg.block k (Nat.lt_of_lt_of_le hk h.r.keep.size) (fun e => Bas.no hk hx (hv k e.symm).2.1 rfl)]; exact h.r.keep.block k hk hx⟩
    (fun _ h => h) (fun b hb => Nat.lt_of_lt_of_le (h.r.okb b hb) hg.size) (fun id ob b ho hb => (h.r.sep id ob b ho hb).1)
  refine ⟨_, rfl, _, ok, hw.mk_ d (.row e t zs) (.row d) v' v' ⟨inner, hown, RepL.imp (fun x c r => r.move hok (fun _ h => h)) hr⟩ ?_ ?_ ?_, h.f⟩
  · intro e' t' xs' hf; simp
  · intro b hb'
    have hlt : b < w'.heap.size := by
      rcases hown.2 with ⟨rfl, _⟩ | ⟨g, cap, cur, rfl, _, hgg, _⟩
      · simp [blk] at hb'
      · simp [blk] at hb'; subst hb'; exact (Array.getElem?_eq_some_iff.1 hgg).1
    rcases hb b hb' with h1 | h1
    · exact ⟨(hv b h1).1, (hv b h1).2.1, hlt⟩
    · exact ⟨fun hk => by have := h.r.okb b hk; omega, h.r.keep.old h1, hlt⟩
  · intro b id o' hne hf hb' hb''
    rcases hb b hb' with h1 | h1
    · exact (hv b h1).2.2.2 id o' hf hb''
    · have := (h.r.sep id o' b hf hb'').2.2; omega

theorem RepL.one' {t : Ty} {xs : List t.D} {cs : List Value} (h : RepL (Rep w ok t) xs cs) : ∀ u ∈ cs, u.oneCell' = true := RepL.one (p := fun u => u.oneCell' = true) (fun x c r => r.one) h

/-- What is appended: its elements, read. -/
theorem src_rep (r : Rel w0 m ok st a w) {q : AV0} {v : Value} {e : TypeId} {t : Ty} {ys : List t.D} (h : RepA0 w ok m st.hp q v) (hq : q.ro st.hp = .tv (.sl e t) ys) :
    ∃ A c news, v = .slice A ys.length c ∧ RepL (Rep w ok t) ys news ∧ ((A = none ∧ ys.length = 0) ∨ ∃ ad, A = some ad ∧ ∀ (j : Nat) (u : Value), news[j]? = some u → w.cell? (ad.add j) = some u) := by
  cases q with
  | tv t' x =>
    simp only [AV0.ro] at hq
    cases hq
    obtain ⟨A, cc, news, hxv, hle, hm, hl⟩ := RepV.sl h
    refine ⟨A, cc, news, hxv, hl, ?_⟩
    rcases hm with rfl | ⟨ad, e1, _, e2⟩
    · cases A with
      | none => exact .inl ⟨rfl, rfl⟩
      | some ad => refine .inr ⟨ad, rfl, fun j u hu => ?_⟩; have : news = [] := hl; subst this; simp at hu
    · exact .inr ⟨ad, e1, e2⟩
  | row id =>
    simp only [AV0.ro] at hq
    split at hq
    · rename_i e1 t1 xs hf
      cases hq
      obtain ⟨inner, hown, hl⟩ := r.ob id _ hf
      have hv := h _ _ _ hf
      rcases hown.2 with ⟨e2, hn⟩ | ⟨g, cap, cur, e2, hb, hg, hle, hcap, hsz, htake⟩
      · exact ⟨none, 0, inner, by rw [hv, e2, hn], hl, .inl ⟨rfl, hn⟩⟩
      · rw [e2] at hown
        exact ⟨some ⟨g, 0, none⟩, cap, inner, by rw [hv, e2], hl, .inr ⟨_, rfl, fun j u hu => World.ownsRow.cells (g := g) hown rfl j u hu⟩⟩
    · cases hq
  | _ => simp [AV0.ro] at hq

theorem op_append (h : Here P cx w0 ok0 m ok st a w) {c : Call} (ho : o.op = .call c) (hc : c.callee = .builtin .append) (hk : aop cx o K st) : o.wp P a w (Nxt w0 ok0 K) Q := by
  unfold aop at hk
  rw [ho] at hk
  simp only [hc] at hk
  split at hk
  · rename_i s x TT T' d hargs htys hd
    obtain ⟨hTT, hk1⟩ := stat_nat hk
    clear hk
    have hk := hk1
    clear hk1
    have hTT := hTT.symm
    subst hTT
    have ea := args_two hargs
    have et := args_two htys
    unfold one at hk
    split at hk
    · rename_i q hq
      have hx := h.r.op cx TT x
      rw [hq] at hx
      replace hx : RepA0 w ok m st.hp q (a.eval x) := hx
      clear hq
      have key : ∀ (sv : Option AV0), (sv = none ∧ a.eval s = .slice none 0 0 ∨ ∃ p, sv = some p ∧ RepA0 w ok m st.hp p (a.eval s)) → appendA cx st TT d sv q K → o.wp P a w (Nxt w0 ok0 K) Q := by
        intro sv hsv hk
        unfold appendA at hk
        split at hk
        · rename_i e t e' t' ys hT hq'
          split at hk
          · rename_i ys' hcst
            obtain ⟨hT1, hT2⟩ := sl_size (h.cx.ty TT _ hT)
            obtain ⟨i, z, hi, hsz, hz, hzc⟩ := hT2.inf.out
            obtain ⟨hne, hbt⟩ := h.cx.bytes TT e t hT
            have hbt := hbt i hi
            have hzs : z.cells.size = i.size := by rw [hsz, ← Array.length_toList, hzc]; exact (Rep.zero (w := w) (ok := ok) t).len
            obtain ⟨hee, hys⟩ := cast?_some hcst
            cases hee
            have hys : ys' = ys := hys
            subst hys
            obtain ⟨A, cc, news, hxv, hl, hA⟩ := src_rep h.r hx hq'
            have hll := RepL.len (s := t.size) (fun x c r => Rep.len r) hl
            have fin : ∀ {v' : Value} {w' : World} {v : Value}, a.eval s = v → (Builtin.append_ #[TT, TT] o.type #[v, .slice A ys'.length cc]).run P w = .ok v' w' → (execOp a.eval o).run P w = .ok (.value v') w' := by
              intro v' w' v e hr
              simp [execOp, ho, resolve, hc, ea, et, invoke, builtin, e, hxv, hr]
            split at hk
            · rename_i id
              split at hk
              · rename_i e1 t1 xs hf
                split at hk
                · rename_i xs' hcx
                  obtain ⟨⟨hb1, hb2⟩, hk⟩ := hk
                  have hs : RepA0 w ok m st.hp (.row id) (a.eval s) := by
                    rcases hsv with ⟨e, _⟩ | ⟨p, e, hs⟩
                    · cases e
                    · cases e; exact hs
                  have hv : a.eval s = m id := hs _ _ _ hf
                  obtain ⟨he, hxs⟩ := cast?_some hcx
                  cases he
                  have hxs : xs' = xs := hxs
                  subst hxs
                  obtain ⟨inner, hown, hrl⟩ := h.r.ob id _ hf
                  obtain ⟨v', w', hr, ho2, hg, hbl⟩ := append_run (P := P) o.type hT1 hi hz hzs (by omega) (hsz ▸ hown) (by rw [hll, hsz]) hA (RepL.one' hl) (by simp only [maxLen]; simp; omega) (by rw [hbt]; exact hb2)
                  refine wp_val (fin hv hr) ?_
                  rw [hd]
                  have hgo := (show Here P cx w0 ok0 m ok { st with hp := del id st.hp } a w from ⟨h.cx, h.r.del_ id, h.f⟩).grown (d := d) (e := e) (t := t) (zs := xs' ++ ys') (v := m id) hg
                    (blk_own (by rcases hown.2 with ⟨e, _⟩ | ⟨g, cap, cur, e, _⟩ <;> exact ⟨_, _, _, e⟩)) (by rw [List.length_append]; exact hsz ▸ ho2) ?_ hbl ?_
                  · obtain ⟨s', rfl, hr'⟩ := hgo
                    exact ⟨_, hk, hr'⟩
                  · exact RepL.append hrl hl
                  · intro b hb
                    have := h.r.sep id _ b hf hb
                    refine ⟨this.1, this.2.1, this.2.2, fun id' o' hf' hb' => ?_⟩
                    rw [fnd_del] at hf'
                    split at hf'
                    · cases hf'
                    · rename_i hne; exact hne (h.r.inj id' id o' _ b hf' hf hb' hb)
                · exact hk.elim
              · exact hk.elim
            · obtain ⟨⟨hb1, hb2⟩, hk⟩ := hk
              have hv : a.eval s = .slice none 0 0 := by
                rcases hsv with ⟨_, hs⟩ | ⟨p, e, _⟩
                · exact hs
                · cases e
              obtain ⟨v', w', hr, ho2, hg, hbl⟩ := append_run (P := P) o.type hT1 hi hz hzs (by omega) (World.ownsRow_nil w 0 e i.size) (by rw [hll, hsz]) hA (RepL.one' hl) (by simp only [maxLen]; simp; omega) (by rw [hbt, Nat.zero_add]; exact hb2)
              refine wp_val (fin hv hr) ?_
              rw [hd]
              have hgo := h.grown (d := d) (e := e) (t := t) (zs := ys') (v := .slice none 0 0) hg rfl (by simpa [hsz] using ho2) (by simpa using hl) hbl (fun b hb => by simp [blk] at hb)
              obtain ⟨s', rfl, hr'⟩ := hgo
              exact ⟨_, hk, hr'⟩
            · exact hk.elim
          · exact hk.elim
        · exact hk.elim
      split at hk
      · rename_i hn
        refine key none (.inl ⟨rfl, ?_⟩) hk
        unfold isNil at hn
        split at hn
        · rfl
        · cases hn
      · split at hk
        · rename_i p hp
          have hs := h.r.op cx TT s
          rw [hp] at hs
          exact key (some p) (.inr ⟨p, rfl, hs⟩) hk
        · exact hk.elim
    · exact hk.elim
  · exact hk.elim

theorem op_len (h : Here P cx w0 ok0 m ok st a w) {c : Call} (ho : o.op = .call c) (hc : c.callee = .builtin .len) (hk : aop cx o K st) : o.wp P a w (Nxt w0 ok0 K) Q := by
  unfold aop at hk
  rw [ho] at hk
  simp only [hc] at hk
  split at hk
  · rename_i x T hargs htys
    have ea := args_one hargs
    have et := args_one htys
    unfold one at hk
    split at hk
    · rename_i q hq
      have hx := h.r.op cx T x
      rw [hq] at hx
      have hx0 : RepA0 w ok m st.hp q (a.eval x) := hx
      replace hx := peek h.r (show RepA0 w ok m st.hp q (a.eval x) from hx)
      clear hq
      unfold lenA at hk
      split at hk
      · rename_i id lo n
        unfold lenS at hk
        split at hk
        · rename_i e t e' t' xs hT hf
          obtain ⟨A, cc, hxv⟩ : ∃ A cc, a.eval x = .slice A n cc := by
            rcases hx0 _ _ _ hf with ⟨rfl, A, c, e⟩ | ⟨b, N, C, c, _, e⟩
            · exact ⟨A, c, e⟩
            · exact ⟨_, c, e⟩
          exact h.val (x := .v (.tv (.int .i64) _)) RepV.of_int (by simp [execOp, ho, resolve, hc, ea, et, invoke, builtin, hxv, Builtin.len_, run_underlying (h.cx.ty T _ hT).1, goInt]) hk
        · exact hk.elim
      unfold lenO at hk
      clear hx0
      revert hx
      split at hk
      · rename_i s hT hq
        rw [hq]
        intro hx
        have e : a.eval x = .string s := RepV.str hx
        exact h.val (x := .v (.tv (.int .i64) _)) RepV.of_int (by simp [execOp, ho, resolve, hc, ea, et, invoke, builtin, e, Builtin.len_, run_underlying (h.cx.ty T _ hT).1, goInt]) hk
      · rename_i e t e' t' xs hT hq
        rw [hq]
        intro hx
        obtain ⟨A, cc, news, hxv, _⟩ := RepV.sl hx
        exact h.val (x := .v (.tv (.int .i64) _)) RepV.of_int (by simp [execOp, ho, resolve, hc, ea, et, invoke, builtin, hxv, Builtin.len_, run_underlying (h.cx.ty T _ hT).1, goInt]) hk
      · rename_i n t hT
        intro hx
        obtain ⟨⟨e, hu, _⟩, _⟩ := h.cx.ty T _ hT
        refine h.val (x := .v (.tv (.int .i64) _)) RepV.of_int ?_ hk
        simp only [execOp, ho, resolve, hc, ea, et, invoke, builtin, Sem.run_bind, Sem.run_pure, Result.andThen_ok, Builtin.len_, List.map_toArray, List.map_cons, List.map_nil, List.getElem?_toArray, List.getElem?_cons_zero, run_underlying hu, goInt]
      · exact hk.elim
    · exact hk.elim
  · exact hk.elim

theorem op_max (h : Here P cx w0 ok0 m ok st a w) {c : Call} (ho : o.op = .call c) (hc : c.callee = .builtin .max) (hk : aop cx o K st) : o.wp P a w (Nxt w0 ok0 K) Q := by
  unfold aop at hk
  rw [ho] at hk
  simp only [hc] at hk
  split at hk
  · rename_i x y hargs
    have ea := args_two hargs
    unfold one at hk
    split at hk
    · rename_i p hp
      have hx := h.r.op cx o.type x
      rw [hp] at hx
      split at hk
      · rename_i q hq
        have hy := h.r.op cx o.type y
        rw [hq] at hy
        clear hp hq
        revert hx hy
        split at hk
        · rename_i k n k' n'
          intro hx hy
          obtain ⟨e1, hk1⟩ := stat_dec hk
          clear hk
          have hk := hk1
          clear hk1
          subst e1
          have ex : a.eval x = .int k n := RepV.int hx
          have ey : a.eval y = .int k n' := RepV.int hy
          exact h.val (x := .v (.tv (.int k) _)) RepV.of_int (by simp [execOp, ho, resolve, hc, ea, invoke, builtin, ex, ey, Builtin.max_, Builtin.max2, maxInt]) hk
        · exact hk.elim
      · exact hk.elim
    · exact hk.elim
  · exact hk.elim

theorem op_min (h : Here P cx w0 ok0 m ok st a w) {c : Call} (ho : o.op = .call c) (hc : c.callee = .builtin .min) (hk : aop cx o K st) : o.wp P a w (Nxt w0 ok0 K) Q := by
  unfold aop at hk
  rw [ho] at hk
  simp only [hc] at hk
  split at hk
  · rename_i x y hargs
    have ea := args_two hargs
    unfold one at hk
    split at hk
    · rename_i p hp
      have hx := h.r.op cx o.type x
      rw [hp] at hx
      split at hk
      · rename_i q hq
        have hy := h.r.op cx o.type y
        rw [hq] at hy
        clear hp hq
        revert hx hy
        split at hk
        · rename_i k n k' n'
          intro hx hy
          obtain ⟨e1, hk1⟩ := stat_dec hk
          clear hk
          have hk := hk1
          clear hk1
          subst e1
          have ex : a.eval x = .int k n := RepV.int hx
          have ey : a.eval y = .int k n' := RepV.int hy
          exact h.val (x := .v (.tv (.int k) _)) RepV.of_int (by simp [execOp, ho, resolve, hc, ea, invoke, builtin, ex, ey, Builtin.min_, Builtin.min2, minInt]) hk
        · exact hk.elim
      · exact hk.elim
    · exact hk.elim
  · exact hk.elim

end
end Go.Iv
