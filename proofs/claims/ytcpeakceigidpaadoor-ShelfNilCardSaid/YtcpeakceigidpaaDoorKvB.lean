/- Operations proved against the model, sixth part: lengths, conversions, rows made and grown, structs put together. -/
import Derived.Test.YtcpeakceigidpaaDoorKvA
import Derived.Laws.MakeOwn
import Derived.Laws.BytesString
import Derived.Laws.BytesArg
set_option linter.all false
namespace Go.Iv
open Go.RowKit
variable [GL]
section
variable {P : Program} {cx : Cx} {w0 : Bas} {w : World} {ok0 ok : Nat → Prop} {m : Nat → Value} {st : St} {a : Act} {o : Oper} {K : St → Prop} {Q : Exit → Act → World → Prop}
theorem range_rep (z : List Value) (hz : z ≠ []) : ∀ n, (List.range (n * z.length)).map (fun i => z.getD (i % z.length) undef) = (List.replicate n z).flatten
 | 0 => by simp
 | n + 1 => by
  have ih := range_rep z hz n
  rw [show (n + 1) * z.length = z.length + n * z.length by rw [Nat.add_mul]; omega, List.range_add, List.map_append, List.replicate_succ, List.flatten_cons]
  congr 1
  · apply List.ext_getElem
    · simp
    · intro i h1 h2
      simp only [List.getElem_map, List.getElem_range]
      rw [Nat.mod_eq_of_lt h2]; simp [h2]
  · rw [← ih, List.map_map]
    apply List.map_congr_left
    intro i _
    simp
theorem made_list (z : Array Value) (n : Nat) (hz : z.size ≠ 0) : (madeCells z (n * z.size)).toList = (List.replicate n z.toList).flatten := by
 rw [← range_rep z.toList (by intro e; apply hz; have := congrArg List.length e; simpa using this) n]
 unfold madeCells
 rw [Array.toList_map, Array.toList_range]
 simp only [Array.length_toList]
 apply List.map_congr_left
 intro i _
 have hm : i % z.size < z.size := Nat.mod_lt _ (by omega)
 rw [getElem!_pos z (i % z.size) hm, List.getD_eq_getElem?_getD, List.getElem?_eq_getElem (by simpa using hm)]
 simp
theorem zeros_rep {t : Ty} {T : TypeId} (h : TyP P t T) (hs : t.size ≠ 0) (hnp : t.np = true) {i : TypeInfo} {z : Value} (hi : P.info? T = some i) (hz : i.zero = some z) (n : Nat) : RepL (Rep w ok t) (List.replicate n t.zero) (madeCells z.cells (n * i.size)).toList := by
 obtain ⟨i', z', hi', hs', hz', hc⟩ := h.inf.out
 rw [hi] at hi'; cases hi'
 rw [hz] at hz'; cases hz'
 have hl : z.cells.size = t.size := by rw [← Array.length_toList, hc]; exact zcells_len t
 rw [hs', ← hl, made_list z.cells n (by omega), hc]
 exact RepL.replicate (Rep.zero t hnp) n
theorem sl_size {e : TypeId} {t : Ty} {T : TypeId} (h : TyP P (.sl e t) T) : P.underlying T = some (.slice e) ∧ TyP P t e := ⟨h.1, h.2.1⟩
theorem op_makeSlice (h : Here P cx w0 ok0 m ok st a w) {T : TypeId} {l c : Operand} (ho : o.op = .makeSlice T l c) (hk : aop cx o K st) : o.wp P a w (Nxt w0 ok0 K) Q := by
 unfold aop at hk
 rw [ho] at hk
 simp only at hk
 split at hk
 · rename_i d e t k n k' n' hd ht hl hc
   obtain ⟨⟨h0, hn, h1, h2⟩, hk⟩ := hk
   have h3 := h.cx.bytes T e t ht
   have hvl := h.r.op cx 0 l
   rw [hl] at hvl
   have hvl : a.eval l = .int k n := RepV.int hvl
   have hvc := h.r.op cx 0 c
   rw [hc] at hvc
   have hvc : a.eval c = .int k' n' := RepV.int hvc
   obtain ⟨hT, hTe⟩ := sl_size (h.cx.ty T _ ht)
   obtain ⟨i, z, hi, hs, hz, hzc⟩ := hTe.inf.out
   have hb := h3.2 i hi
   have h0' : (0 : Int) ≤ (n : Int) := h0
   have hn' : (n : Int) ≤ (n' : Int) := hn
   have h1' : (n' : Int) ≤ 9223372036854775807 := h1
   obtain ⟨nn, hnn⟩ : ∃ nn : Nat, (n' : Int) = (nn : Int) := ⟨Int.toNat n', (Int.toNat_of_nonneg (Int.le_trans h0' hn')).symm⟩
   obtain ⟨kk, hkk⟩ : ∃ nn : Nat, (n : Int) = (nn : Int) := ⟨Int.toNat n, (Int.toNat_of_nonneg h0').symm⟩
   have hnn' : Int.toNat n' = nn := by rw [show (n' : Int) = (nn : Int) from hnn]; simp
   have hkk' : Int.toNat n = kk := by rw [show (n : Int) = (kk : Int) from hkk]; simp
   have hbb : (i.bytes : Int) * (n' : Int) ≤ 281474976710656 := by
    have h2' : nn * cx.bytes e ≤ 140737488355328 := hnn' ▸ h2
    rw [hb, hnn]
    have : ((cx.bytes e * nn : Nat) : Int) ≤ 281474976710656 := by rw [Nat.mul_comm]; omega
    rwa [Int.natCast_mul] at this
   have hrun := run_make (P := P) w T e i z hT hi hz k k' n n' h0' hn' hbb h1'
   refine wp_val (v := .slice (some ⟨w.heap.size, 0, none⟩) (Int.toNat n) (Int.toNat n')) (w' := w.alloc (.cells (madeCells z.cells (Int.toNat n' * i.size)) e)) ?_ ?_
   · simp only [execOp, ho, hvl, hvc, Sem.run_bind, hrun, Result.andThen_ok, Sem.run_pure]
   · rw [hd]
     have hle : Int.toNat n ≤ Int.toNat n' := by
      rw [hkk', hnn']
      have : (kk : Int) ≤ (nn : Int) := hkk ▸ hnn ▸ hn'
      omega
     have hmax : Int.toNat n' ≤ maxLen := by rw [hnn']; have : (nn : Int) ≤ 9223372036854775807 := hnn ▸ h1'; simp [maxLen]; omega
     have htk : (madeCells z.cells (Int.toNat n' * i.size)).toList.take (Int.toNat n * t.size) = (madeCells z.cells (Int.toNat n * i.size)).toList := by
      rw [← hs]
      have hle2 : Int.toNat n * i.size ≤ Int.toNat n' * i.size := Nat.mul_le_mul_right _ hle
      simp [madeCells, ← List.map_take, List.take_range, Nat.min_eq_left hle2]
     have := h.newRowC d e t (List.replicate (Int.toNat n) t.zero) (madeCells z.cells (Int.toNat n' * i.size)) (Int.toNat n') (by rw [List.length_replicate, htk]; exact zeros_rep hTe h3.1 (show t.np = true from h.cx.np T (.sl e t) ht) hi hz _) (by simp [madeCells, hs]) (by rw [List.length_replicate]; exact hle) hmax
     rw [List.length_replicate] at this
     obtain ⟨s, rfl, hr⟩ := this
     exact ⟨_, hk, hr⟩
 · exact hk.elim
theorem RepL_ints {k : IntKind} {ok : Nat → Prop} : ∀ {xs : List Int} {inner : List Value}, RepL (Rep w ok (.int k)) xs inner → inner = xs.map (Value.int k)
 | [], _, h => h
 | x :: xs, _, ⟨c1, c2, e, r1, r2⟩ => by
  rw [e, show c1 = [.int k x] from r1, RepL_ints r2]; rfl
theorem Rel.marked (r : Rel w0 m ok st a w) {id : Nat} {o : Ob} (hf : fnd id st.hp = some o) {g : Nat} (hg : blk (m id) = some g) {w' : World} (hw : ∀ k, k ≠ g → w'.heap[k]? = w.heap[k]?) (hs : w'.heap.size = w.heap.size)
 (h1 : w'.os = w.os) (h2 : w'.tape = w.tape) (h3 : w'.output = w.output) : Rel w0 m (fun b => ok b ∨ b = g) { st with hp := del id st.hp } a w' := by
 have hsep := r.sep id o g hf hg
 refine (r.del_ id).world (fun b hb => hw b fun e => hsep.1 (e ▸ hb)) (fun i o' b ho hb => hw b fun e => ?_) (by rw [hs]; exact Nat.le_refl _) ⟨h1.trans r.keep.os, h2.trans r.keep.tape, h3.trans r.keep.output, by rw [hs]; exact r.keep.size, fun k hk hx => ?_⟩ (fun b hb => .inl hb) (fun b hb => ?_) (fun i o' b ho hb => ?_) (fun D _ c n => ?_)
 · subst e
   have ho : fnd i (del id st.hp) = some o' := ho
   rw [fnd_del] at ho
   split at ho
   · cases ho
   · rename_i hne
     exact hne (r.inj i id o' o _ ho hf hb hg)
 · refine (hw k fun e => ?_).trans (r.keep.block k hk hx)
   subst e
   rcases hsep.2.1 with h | h
   · exact absurd hk (by omega)
   · exact hx h
 · rw [hs]
   rcases hb with h | rfl
   · exact r.okb b h
   · exact hsep.2.2
 · have ho : fnd i (del id st.hp) = some o' := ho
   rw [fnd_del] at ho
   split at ho
   · cases ho
   · rename_i hne
     rintro (h | rfl)
     · exact (r.sep i o' b ho hb).1 h
     · exact hne (r.inj i id o' o _ ho hf hb hg)
 · have hne : D ≠ g := r.noMark hf hg c
   exact ⟨fun h => h.elim n hne, hw D hne⟩
theorem run_convert_marked {P : Program} (w : World) (t e : TypeId) (g n c : Nat) (cur : Array Value) (ht : P.underlying t = some (.slice e)) (he : P.underlying e = some (.int .u8)) (hg : w.heap[g]? = some (.cells cur e (0, 0))) :
 ∃ w', (convert t t (.slice (some ⟨g, 0, none⟩) n c)).run P w = .ok (.slice (some ⟨g, 0, none⟩) n c) w' ∧ w'.heap[g]? = some (.cells cur e (cur.size, cur.size + 1)) ∧ (∀ k, k ≠ g → w'.heap[k]? = w.heap[k]?) ∧ w'.heap.size = w.heap.size ∧ w'.os = w.os ∧ w'.tape = w.tape ∧ w'.output = w.output := by
 have hsh : w.shape? g = some (e, cur.size) := by
  unfold World.shape?
  rw [hg]
 refine ⟨w.freeze ⟨g, cur.size, none⟩ 1, by simp [convert, run_underlying ht, run_underlying he, markStringish, hsh], ?_, ?_, ?_, ?_, ?_, ?_⟩ <;> unfold World.freeze <;> rw [if_neg (by decide)]
 · obtain ⟨hlt, hk⟩ := Array.getElem?_eq_some_iff.1 hg
   show (w.heap.modify g _)[g]? = _
   rw [Array.getElem?_eq_getElem (by rw [Array.size_modify]; exact hlt), Array.getElem_modify_self, hk]
   rfl
 · intro k hk
   show (w.heap.modify g _)[k]? = _
   rw [Array.getElem?_modify, if_neg (fun e => hk e.symm)]
 · show (w.heap.modify g _).size = _
   rw [Array.size_modify]
theorem op_convert_ (h : Here P cx w0 ok0 m ok st a w) {S T : TypeId} {x : Operand} (ho : o.op = .convert S T x) (hk : one (opA cx st S x) fun x => convA cx S T (x.ro st.hp) fun v => K (st.put o.dst (.v v))) : o.wp P a w (Nxt w0 ok0 K) Q := by
 unfold one at hk
 split at hk
 · rename_i p hp
   have hx := h.r.op cx S x
   rw [hp] at hx
   replace hx := peek h.r (show RepA0 w ok m st.hp p (a.eval x) from hx)
   clear hp
   generalize AV0.ro st.hp p = q at hk hx
   revert hx
   unfold convA at hk
   split at hk
   · rename_i k1 k k2 n hS hT
     intro hx
     have e : a.eval x = .int k2 n := RepV.int hx
     exact h.val (x := .v (.tv (.int k) _)) RepV.of_int (by simp [execOp, ho, e, convert, run_underlying (h.cx.ty S _ hS).1, run_underlying (h.cx.ty T _ hT).1, Conv.intToInt]) hk
   · rename_i s hS hT
     intro hx
     have e : a.eval x = .string s := RepV.str hx
     exact h.val (x := .v (.tv .str s)) RepV.of_str (by simp [execOp, ho, e, convert, run_underlying (h.cx.ty S _ hS).1, run_underlying (h.cx.ty T _ hT).1]) hk
   · rename_i e1 e2 xs hS hT
     intro hx
     obtain ⟨hS1, hS2⟩ := sl_size (h.cx.ty S _ hS)
     have hS3 : P.underlying e1 = some (.int .u8) := hS2.1
     have hT1 : P.underlying T = some .string := (h.cx.ty T _ hT).1
     obtain ⟨A, c, inner, hv, hle, hm, hl⟩ := hx.sl
     have hin : inner = (show List Int from xs).map (Value.int .u8) := RepL_ints hl
     refine h.val (x := .v (.tv .str (bytesOf xs))) (v := .string (bytesOf xs)) RepV.of_str ?_ hk
     rcases hm with rfl | ⟨ad, rfl, _, hc⟩
     · cases A with
       | none => simp [execOp, ho, hv, convert, run_underlying hS1, run_underlying hT1, run_underlying hS3, Conv.bytesToString, bytesOf]; rfl
       | some ad =>
        have hl0 : (loadCells ad 0).run P w = .ok (([] : List Int).map (Value.int .u8)).toArray w := run_loadCells_list (P := P) w ad [] (by simp)
        have := run_bytesToString (P := P) w ad 0 c [] hl0
        simp only [execOp, ho, hv, convert, Sem.run_bind, run_underlying hS1, run_underlying hT1, run_underlying hS3, Result.andThen_ok, List.length_nil, this]
        rfl
     · have hl1 : (loadCells ad (List.length xs)).run P w = .ok ((show List Int from xs).map (Value.int .u8)).toArray w := by
        have := run_loadCells_list (P := P) w ad inner hc
        rw [hin] at this
        rwa [List.length_map] at this
       have := run_bytesToString (P := P) w ad (List.length xs) c xs hl1
       simp only [execOp, ho, hv, convert, Sem.run_bind, run_underlying hS1, run_underlying hT1, run_underlying hS3, Result.andThen_ok, this]
       rw [foldl_push_bytes]
       simp [bytesOf]
   · exact hk.elim
 · exact hk.elim
theorem op_convert (h : Here P cx w0 ok0 m ok st a w) {S T : TypeId} {x : Operand} (ho : o.op = .convert S T x) (hk : aop cx o K st) : o.wp P a w (Nxt w0 ok0 K) Q := by
 unfold aop at hk
 rw [ho] at hk
 simp only at hk
 unfold markA at hk
 split at hk
 · rename_i id hx
   cases hST : Nat.beq S T with
   | false => rw [hST] at hk; exact op_convert_ h ho hk
   | true =>
    obtain rfl := Nat.eq_of_beq_eq_true hST
    rw [hST, cond_true] at hk
    split at hk
    · rename_i e e' t' xs0 hS hf
      split at hk
      · rename_i xs hc
        obtain ⟨e1, e2⟩ := cast?_some hc
        obtain ⟨hlen, hk⟩ := hk
        have hv := h.r.op cx S x
        rw [hx] at hv
        have hv : a.eval x = m id := hv _ _ _ hf
        cases e1
        obtain rfl := e2
        have hob := h.r.ob id _ hf
        obtain ⟨inner, hown, hrep⟩ := hob
        obtain ⟨hS1, hS2⟩ := sl_size (h.cx.ty S _ hS)
        rcases hown.2 with ⟨_, h0⟩ | ⟨g, cap, cur, hm, _, hg, hle, hcm, hsz, htk⟩
        · have h0 : List.length xs = 0 := h0
          omega
        · obtain ⟨w', hrun, hg', hoth, hs', hos, htp, hout⟩ := run_convert_marked (P := P) w S e g (List.length xs) cap cur hS1 hS2.1 hg
          have r' := h.r.marked hf (g := g) (by rw [hm]; rfl) hoth hs' hos htp hout
          refine wp_val (v := m id) (w' := w') ?_ ⟨_, hk, m, _, r'.put (x := .v (.tv (.sl e (.int .u8)) xs)) ?_ _, fun b hb => ?_⟩
          · rw [hm]
            simp only [execOp, ho, hv, hm]
            rw [Sem.run_bind, hrun]
            rfl
          · rw [hm]
            refine RepV.of_sl (inner := inner) hle (.inr ⟨⟨g, 0, none⟩, rfl, .inr rfl, fun j u hu => ?_⟩) (RepL.imp (fun x c h => h.flat_move rfl) hrep)
            rw [Addr.add_mid]
            simp only [World.cell?, Nat.zero_add, hg']
            rw [← htk, List.getElem?_take] at hu
            split at hu
            · simpa using hu
            · cases hu
          · rcases hb with hb | rfl
            · exact h.f b hb
            · exact .inr (h.r.sep id _ b hf (by rw [hm]; rfl)).2.1
      · exact hk.elim
    · exact hk.elim
 · exact op_convert_ h ho hk
end
end Go.Iv
