/- A region whose order is open: a store that may come anywhere in a chain. -/
import Derived.Test.YtcpeakceigidpaaDoorKvM
set_option linter.all false
namespace Go.Iv
open Go.RowKit
variable [GL]
section
variable {P : Program} {cx : Cx} {w0 : Bas} {w : World} {ok0 ok : Nat → Prop} {m : Nat → Value} {st : St} {a : Act} {o : Oper} {K : St → Prop} {Q : Exit → Act → World → Prop}
theorem aop1_sound (hcx : CxOk P cx) {ops : Array Oper} {i : Nat} {o : Oper} (ho : ops[i]? = some o) {K' : Act → World → Prop} (hK : ∀ a w, Nxt w0 ok0 K a w → K' a w) (hk : aops cx ops K [o] st) (hr : RelE w0 ok0 st a w) : wpOp P ops Q i K' a w := by
 obtain ⟨m, ok, r, f⟩ := hr
 have h : Here P cx w0 ok0 m ok st a w := ⟨hcx, r, f⟩
 have run : ∀ st', Here P cx w0 ok0 m ok st' a w → aop cx o (aops cx ops K []) st' → o.wp P a w K' Q := fun st' h' hk' =>
  Oper.wp_mono' (fun a' w' ⟨s, hs, hr⟩ => hK a' w' ⟨s, aops_nil.mp hs, hr⟩) (aop_sound h' hk')
 have skip : ∀ st', Here P cx w0 ok0 m ok st' a w → aops cx ops K [] (st'.put o.dst (.tup [])) → K' (a.put o.dst undef) w := fun st' h' hk' =>
  hK _ _ ⟨_, aops_nil.mp hk', m, ok, h'.r.put (x := .tup []) rep_skip o.dst, f⟩
 unfold aops at hk
 rw [frc_eq] at hk
 unfold wpOp
 simp only [ho]
 cases hg : o.guard with
 | none =>
  rw [hg] at hk
  rw [if_pos (by simp [Region.wanted, hg])]
  exact .inl (run st h hk)
 | some jw =>
  obtain ⟨j, want⟩ := jw
  rw [hg] at hk
  simp only at hk
  split at hk
  · rename_i t ht
    split at hk
    · rename_i b hb
      have hy : yielded ops a.tmps j = some b := by
       have := r.env t
       rw [hb] at this
       have : a.tmps.getD t undef = .bool b := RepV.bool this
       have hlt : t < a.tmps.size := by
        rcases Nat.lt_or_ge t a.tmps.size with h1 | h1
        · exact h1
        · exfalso
          have e : a.tmps.getD t undef = undef := by simp [Array.getD_eq_getD_getElem?, h1]
          rw [this] at e; cases e
       have ht2 : a.tmps[t]? = some (.bool b) := by
        rw [← this]; simp [Array.getD_eq_getD_getElem?, hlt]
       unfold yielded
       rw [ht, Option.bind_some, ht2]
      have hw : Region.wanted o (yielded ops a.tmps) = (b == want) := by
       simp [Region.wanted, hg, hy]
      cases want with
      | true =>
       rw [cond_true] at hk
       rcases br_cases hk with ⟨e, hk⟩ | ⟨e, hk⟩
       · rw [if_pos (by rw [hw, e]; rfl)]; exact .inl (run _ (h.split hb true e) hk)
       · rw [if_neg (by rw [hw, e]; simp)]; exact skip _ (h.split hb false e) hk
      | false =>
       rw [cond_false] at hk
       rcases br_cases hk with ⟨e, hk⟩ | ⟨e, hk⟩
       · rw [if_neg (by rw [hw, e]; simp)]; exact skip _ (h.split hb true e) hk
       · rw [if_pos (by rw [hw, e]; rfl)]; exact .inl (run _ (h.split hb false e) hk)
    · rename_i hb
      have hy := yielded_skip r ht hb
      rw [if_neg (by simp [Region.wanted, hg, hy])]
      exact skip st h hk
    · exact hk.elim
  · exact hk.elim
end
section
variable {P : Program} {cx : Cx} {ops : Array Oper} {K : St → Prop}
def upd (st : St) (id : Nat) (ob : Ob) : St := { st with hp := ins id ob st.hp }
theorem upd_get {st : St} {id : Nat} {ob : Ob} {t : Nat} : (upd st id ob).get t = st.get t := rfl
theorem upd_rf {st : St} {id : Nat} {ob : Ob} : (upd st id ob).rf = st.rf := rfl
theorem upd_fnd {st : St} {id j : Nat} {ob : Ob} (h : j ≠ id) : fnd j (upd st id ob).hp = fnd j st.hp := by
 unfold upd
 rw [fnd_ins, if_neg h]
theorem noTo_out {d : Nat} : ∀ {l : List ((Nat × Nat) × AV0)}, noTo d l = true → ∀ id off, d ∉ (fndR id off l).refs
 | [], _, id, off => by simp [fndR, AV0.refs]
 | p :: r, h, id, off => by
  unfold noTo at h
  split at h
  · cases h
  · rename_i h1
    have h2 := noTo_out h id off
    have h4 : d ∉ p.2.refs := fun hm => by rw [inL_mem.2 hm] at h1; cases h1
    simp only [fndR, nbeq]
    by_cases e : p.1.1 = id
    · by_cases e2 : p.1.2 = off
      · simp only [e, e2, decide_true, cond_true]; exact h4
      · simp only [e, e2, decide_true, decide_false, cond_true, cond_false]; exact h2
    · simp only [e, decide_false, cond_false]; exact h2
def StoS (P : Program) (ops : Array Oper) (s : Nat) (id : Nat) (ob : Ob) (st : St) : Prop := ∀ s2 : St, (∀ t ∈ looksI ops s, s2.get t = st.get t) → fnd id s2.hp = fnd id st.hp → s2.rf = st.rf →
 ∀ (w0 : Bas) (ok0 : Nat → Prop) (a : Act) (w : World) (Q : Exit → Act → World → Prop), RelE w0 ok0 s2 a w → wpOp P ops Q s (RelE w0 ok0 (upd s2 id ob)) a w
theorem holN_none {cx : Cx} {st : St} {T : TypeId} {a : AV} {y : Operand} (h : isNil y = false) : holN cx st T a y = none := by
 unfold holN
 split
 · simp [isNil] at h
 · rfl
theorem holQ_tv {cx : Cx} {st : St} {T : TypeId} {a : AV} {t : Ty} {x : t.D} : holQ cx st T a (.v (.tv t x)) = none := by
 unfold holQ
 split
 · split
   · split
     · rename_i k hk
       cases k <;> rfl
     · rfl
   · rfl
 · rfl
theorem stoE_out (h : CxOk P cx) {s : Nat} {o : Oper} (ho : ops[s]? = some o) {st : St} (hk : stoE cx o K st) : ∃ ob T t y, o.op = .store T (.tmp t) y ∧ K (upd st t ob) ∧ StoS P ops s t ob st ∧ ∀ id off, t ∉ (fndR id off st.rf).refs := by
 unfold stoE at hk
 split at hk
 · rename_i T t y hop hdst hgd
   split at hk
   · rename_i id off t'' x hp hx
     have hk2 := stat_nat hk
     clear hk
     obtain ⟨hidt, hk3⟩ := hk2
     have hk4 := stat_out hk3
     clear hk3
     obtain ⟨hto2, hk⟩ := hk4
     simp only [Bool.and_eq_true, Bool.not_eq_true'] at hto2
     obtain ⟨hto, hnil⟩ := hto2
     subst hidt
     unfold storeA at hk
     split at hk
     · rename_i hty e1 e2
       cases e1
       cases e2
       split at hk
       · rename_i y' hy'
         split at hk
         · rename_i T' t0 x0 hf
           split at hk
           · rename_i x' hx'
             obtain ⟨hnr, hk⟩ := stat_out hk
             refine ⟨.box T' t0 x', T, id, y, hop, hk, ?_, noTo_out hto⟩
             intro s2 hl hfn hrf w0 ok0 a w Q hr
             refine aop1_sound h ho (K := fun s => s = upd s2 id (.box T' t0 x')) (fun a' w' ⟨s', hs, hr'⟩ => by subst hs; exact hr') ?_ hr
             have hpt : s2.get id = .v (.ptr id off) := (hl id (looks_op ho (by rw [hop]; simp [Op.operands]))).trans hp
             have hyv : opA cx s2 T y = .v (.tv t'' x) := by
              rw [← hx]
              cases y with
              | tmp k =>
               have hk : s2.get k = st.get k := hl k (looks_op ho (by rw [hop]; simp [Op.operands]))
               exact hk
              | _ => rfl
             unfold aops
             rw [frc_eq]
             rw [hgd]
             unfold aop
             rw [hop]
             simp only [hdst]
             have h0 : opA cx s2 0 (.tmp id) = .v (.ptr id off) := by unfold opA; exact hpt
             rw [h0, hyv, holN_none hnil]
             simp only [holQ_tv]
             show storeA cx (freezes s2 (AV.ids (.v (.tv t'' x)))) T (.ptr id off) ((AV.v (.tv t'' x)).ro s2.hp) _
             have hi : AV.ids (.v (.tv t'' x)) = [] := rfl
             have hro : (AV.v (.tv t'' x)).ro s2.hp = .tv t'' x := rfl
             rw [hi, hro]
             show storeA cx s2 T (.ptr id off) (.tv t'' x) _
             unfold storeA
             rw [hty]
             simp only [hy', hfn, hf, hx', hrf, hnr]
             show aops cx ops _ [] _
             rw [aops_nil]
             unfold upd
             rw [hrf]
           · exact hk.elim
         · exact hk.elim
       · exact hk.elim
     · rename_i e1 e2; cases e1
     · rename_i e1 e2; cases e1
     · exact hk.elim
   · exact hk.elim
 · exact hk.elim
section
variable {P : Program} {cx : Cx} {ops : Array Oper} {S : Nat → Bool} {v : Nat → AV × Option Ob}
--FRONT
theorem front_sto (h : CxOk P cx) {K : St → Prop} {l : List Bool} {st : St} {cr : List Nat} {I : List (Nat × List Nat)} (hlen : l.length = ops.size) {s : Nat} (hok : fstOK ops l I s = true) (hcr : cr.all (fun j => inL j (I.map (·.1))) = true) (hforb : I.all (forbOK ops cr (I.map (·.1))) = true)
 (hfr : freshA ops st cr = true) (hk : pops cx ops cr (stoK cx ops s K) I st) : ∃ s1, K s1 ∧ ∀ (w0 : Bas) (ok0 : Nat → Prop) (Q : Exit → Act → World → Prop),
  (∀ (listed : Array Bool) (N : Nat) (a : Act) (w : World), listed.toList = (setL l (I.map (·.1))).set s true → listed.toList.count false ≤ N → RelE w0 ok0 s1 a w → wpAny P .any ops Q N listed a w) →
  ∀ (listed : Array Bool) (N : Nat) (a : Act) (w : World), listed.toList = l → l.count false ≤ N → RelE w0 ok0 st a w → wpAny P .any ops Q N listed a w := by
 have hok' := hok
 simp only [fstOK, Bool.and_eq_true, List.all_eq_true] at hok
 obtain ⟨⟨⟨⟨⟨⟨⟨⟨k1, k2⟩, k3⟩, k4⟩, k6⟩, k5⟩, k7⟩, k8⟩, k9⟩ := hok
 obtain ⟨⟨⟨ks1, ks2⟩, ks3⟩, ks4⟩ := k7
 have spec : ∀ pre i r, I.map (·.1) = pre ++ i :: r → (∃ o, ops[i]? = some o) ∧ l.getD i true = false ∧ ∀ j ∈ needI ops i, l.getD j false = true ∨ j ∈ pre := fun pre i r e => by simpa using chainOK_spec _ [] k6 pre i r e
 have hnI := distinctL_nodup k1
 have hnd := distinctL_nodup k3
 obtain ⟨v, hK, hv⟩ := pops_all h I st (fun p hp => by
  obtain ⟨pre, r, e⟩ := List.append_of_mem (List.mem_map_of_mem (f := (·.1)) hp)
  exact (spec pre p.1 r e).1) hnI hk
 -- by numbers
 have hv' : ∀ i ∈ I.map (·.1), ∃ pre r fb, I.map (·.1) = pre ++ i :: r ∧ Dn P ops cr i fb (effS ops v (fun _ => true) pre st) (v i) ∧ ∀ c ∈ cr, ∃ d, dstOf ops c = some d ∧ (d ∈ fb ∨ c ∈ cov ops (I.map (·.1)) ((needI ops i).filter (fun j => inL j (I.map (·.1))))) := by
  intro i hi
  obtain ⟨p, hp, rfl⟩ := List.mem_map.1 hi
  obtain ⟨pre, r, e⟩ := List.append_of_mem hp
  refine ⟨pre.map (·.1), r.map (·.1), p.2, by rw [e]; simp, hv pre p r e, fun c hc => ?_⟩
  have := List.all_eq_true.1 (List.all_eq_true.1 hforb p hp) c hc
  split at this
  · rename_i d hd
    refine ⟨d, hd, ?_⟩
    simpa [inL_mem] using this
  · cases this
 have hcrI : ∀ c ∈ cr, c ∈ I.map (·.1) := fun c hc => inL_mem.1 (List.all_eq_true.1 hcr c hc)
 have hfresh := freshA_out hfr
 -- the store
 obtain ⟨os, hos⟩ := Option.isSome_iff_exists.1 ks3
 unfold stoK at hK
 rw [hos] at hK
 have hKo := hK
 clear hK
 obtain ⟨ob, T, t0, y0, hop, hK, hsto, hto⟩ := stoE_out h hos hKo
 clear hKo
 have hst0 : stoT ops s = t0 := by unfold stoT; rw [hos]; simp only [hop]
 have htl0 : t0 ∈ looksI ops s := looks_op hos (by rw [hop]; simp [Op.operands])
 rw [hst0] at k8
 have hTf : ∀ pre p r, I = pre ++ p :: r → p.1 ∈ cov ops (I.map (·.1)) ((needI ops s).filter (fun j => inL j (I.map (·.1)))) ∨ (t0 ∈ p.2 ∧ ∀ d, dstOf ops p.1 = some d → d ≠ t0) := fun pre p r e => by
  have := k8 p (by rw [e]; simp)
  simp only [Bool.or_eq_true, Bool.and_eq_true, inL_mem] at this
  refine this.imp id fun hh => ⟨hh.1, fun d hd e => ?_⟩
  have h2 := hh.2
  rw [hd] at h2
  subst e
  simp [nbeq] at h2
 have hv'' : ∀ i ∈ I.map (·.1), ∃ pre r fb, I.map (·.1) = pre ++ i :: r ∧ Dn P ops cr i fb (effS ops v (fun _ => true) pre st) (v i) ∧ (∀ c ∈ cr, ∃ d, dstOf ops c = some d ∧ (d ∈ fb ∨ c ∈ cov ops (I.map (·.1)) ((needI ops i).filter (fun j => inL j (I.map (·.1)))))) ∧ (i ∈ cov ops (I.map (·.1)) ((needI ops s).filter (fun j => inL j (I.map (·.1)))) ∨ (t0 ∈ fb ∧ ∀ d, dstOf ops i = some d → d ≠ t0)) := by
  intro i hi
  obtain ⟨p, hp, rfl⟩ := List.mem_map.1 hi
  obtain ⟨pre, r, e⟩ := List.append_of_mem hp
  refine ⟨pre.map (·.1), r.map (·.1), p.2, by rw [e]; simp, hv pre p r e, fun c hc => ?_, hTf pre p r e⟩
  have := List.all_eq_true.1 (List.all_eq_true.1 hforb p hp) c hc
  split at this
  · rename_i d hd
    refine ⟨d, hd, ?_⟩
    simpa [inL_mem] using this
  · cases this
 refine ⟨_, hK, ?_⟩
 clear hv hv' hK hk hok' hforb hcr hfr hTf k8
 have hv' := hv''
 clear hv''
 generalize I.map (·.1) = J at *
 intro w0 ok0 Q hrest listed N a w hl hN hr
 have mem : ∀ i ∈ J, ∃ pre r, J = pre ++ i :: r := fun i hi => by
  obtain ⟨pre, r, e⟩ := List.append_of_mem hi
  exact ⟨pre, r, e⟩
 have hd : ∀ j ∈ J, ∃ d, dstOf ops j = some d := fun j hj => Option.isSome_iff_exists.1 (k2 j hj)
 have hIu : ∀ i ∈ J, l.getD i true = false := fun i hi => by
  obtain ⟨pre, r, e⟩ := mem i hi
  exact (spec pre i r e).2.1
 have hIf : ∀ i ∈ J, l.getD i false = false := fun i hi => by
  have := hIu i hi
  simp only [List.getD_eq_getElem?_getD] at this ⊢
  cases hli : l[i]? with
  | none => rfl
  | some b => rw [hli] at this; simpa using this
 have dinj : ∀ i ∈ J, ∀ j ∈ J, ∀ d, dstOf ops i = some d → dstOf ops j = some d → i = j := by
  intro i hi j hj d h1 h2
  clear hto hrest hIu hIf spec mem hd hv' hcrI k1 k2 k3 k4 k5 k6 ks1 ks4 k9 hsto
  induction J with
  | nil => simp at hi
  | cons x J ih =>
   have hn2 : (J.filterMap (dstOf ops)).Nodup := by
    cases hx : dstOf ops x with
    | none => rwa [List.filterMap_cons_none hx] at hnd
    | some e => rw [List.filterMap_cons_some hx] at hnd; exact (List.nodup_cons.1 hnd).2
   rcases List.mem_cons.1 hi with e1 | hi2
   · rcases List.mem_cons.1 hj with e2 | hj2
     · rw [e1, e2]
     · exfalso
       rw [e1] at h1
       rw [List.filterMap_cons_some h1] at hnd
       exact (List.nodup_cons.1 hnd).1 (List.mem_filterMap.2 ⟨j, hj2, h2⟩)
   · rcases List.mem_cons.1 hj with e2 | hj2
     · exfalso
       rw [e2] at h2
       rw [List.filterMap_cons_some h2] at hnd
       exact (List.nodup_cons.1 hnd).1 (List.mem_filterMap.2 ⟨i, hi2, h1⟩)
     · exact ih (List.nodup_cons.1 hnI).2 hn2 hi2 hj2
 have hsJ : s ∉ J := fun hc => by
  rw [inL_mem.2 hc] at ks1; cases ks1
 have hsu : l.getD s true = false := by simpa using ks2
 have hsf : l.getD s false = false := by
  simp only [List.getD_eq_getElem?_getD] at hsu ⊢
  cases hli : l[s]? with
  | none => rfl
  | some b => rw [hli] at hsu; simpa using hsu
 have hC9 : ∀ j ∈ J, ∀ d, dstOf ops j = some d → d ∈ looksI ops s → j ∈ cov ops J ((needI ops s).filter (fun j => inL j J)) := fun j hj d hd hdl => by
  have := k9 j hj
  simp only [Bool.or_eq_true, inL_mem] at this
  rcases this with h | h
  · exact h
  · rw [hd] at h
    have h : (!inL d (looksI ops s)) = true := h
    rw [inL_mem.2 hdl] at h; cases h
 obtain ⟨E, hE⟩ : ∃ E : (Nat → Bool) → Bool → St, E = fun S b => bif b then upd (effS ops v S J st) t0 ob else effS ops v S J st := ⟨_, rfl⟩
 have hEf : ∀ S, E S false = effS ops v S J st := fun S => by rw [hE]; rfl
 have hEt : ∀ S, E S true = upd (effS ops v S J st) t0 ob := fun S => by rw [hE]; rfl
 have hEget : ∀ S b t, (E S b).get t = (effS ops v S J st).get t := fun S b t => by cases b <;> simp only [hEf, hEt] <;> rfl
 have hEn : ∀ S b, (E S b).n = st.n := fun S b => by cases b <;> simp only [hEf, hEt] <;> exact effS_len
 have hErf : ∀ S b, (E S b).rf = st.rf := fun S b => by cases b <;> simp only [hEf, hEt] <;> exact effS_rf
 have hEfnd : ∀ S b id, id ≠ t0 ∨ b = false → fnd id (E S b).hp = fnd id (effS ops v S J st).hp := fun S b id hid => by
  cases b with
  | false => rw [hEf]
  | true => rw [hEt]; exact upd_fnd (hid.resolve_right (by simp))
 have claim : ∀ (m : Nat) (S : Nat → Bool) (b : Bool) (listed : Array Bool) (N : Nat) (a : Act) (w : World), (J.filter fun i => !S i).length + (bif b then 0 else 1) = m → (∀ i, S i = true → i ∈ J) → (∀ i, S i = true → ∀ j ∈ needI ops i, l.getD j false = true ∨ S j = true) →
  (b = true → ∀ c ∈ cov ops J ((needI ops s).filter (fun j => inL j J)), S c = true) →
  listed.size = ops.size → (∀ j, listed.getD j true = (l.getD j true || (S j || (b && j == s)))) → listed.toList.count false ≤ N → RelE w0 ok0 (E S b) a w → wpAny P .any ops Q N listed a w := by
  intro m
  induction m with
  | zero =>
   intro S b listed N a w hm hSI hcl hB hsz hli hN hr
   have hb : b = true := by cases b <;> simp at hm ⊢
   subst hb
   have hm : (J.filter fun i => !S i).length = 0 := by simpa using hm
   have hall : ∀ i ∈ J, S i = true := fun i hi => by
    have := List.eq_nil_of_length_eq_zero hm
    rw [List.filter_eq_nil_iff] at this
    simpa using this i hi
   have e1 : effS ops v S J st = effS ops v (fun _ => true) J st := effS_congr fun i hi => ⟨hall i hi, fun _ => rfl⟩
   rw [hEt, e1] at hr
   refine hrest listed N a w ?_ hN hr
   refine List.ext_getElem (by rw [List.length_set, setL_len, hlen]; simpa using hsz) fun j h1 h2 => ?_
   have e2 : listed.toList.getD j true = ((setL l J).set s true).getD j true := by
    have e3 : ((setL l J).set s true).getD j true = ((setL l J).getD j true || j == s) := by
     simp only [List.getD_eq_getElem?_getD, List.getElem?_set]
     by_cases hjs : s = j
     · subst hjs
       by_cases hl2 : s < (setL l J).length <;> simp [hl2]
     · have : (j == s) = false := by simpa using fun e => hjs e.symm
       rw [if_neg hjs, this, Bool.or_false]
    rw [← getD_list, hli, e3, setL_getD, Bool.or_assoc]
    congr 1
    rw [Bool.true_and]
    congr 1
    cases hs : S j with
    | true => rw [inL_mem.2 (hSI j hs)]
    | false =>
     cases hi : inL j J with
     | false => rfl
     | true => rw [hall j (inL_mem.1 hi)] at hs; cases hs
   simpa [List.getD_eq_getElem?_getD, List.getElem?_eq_getElem h1, List.getElem?_eq_getElem h2] using e2
  | succ m ih =>
   intro S b listed N a w hm hSI hcl hB hsz hli hN hr
   have lf : ∀ j, listed.getD j false = true ↔ (l.getD j false = true ∨ S j = true ∨ (b = true ∧ j = s)) := by
    intro j
    have h1 := hli j
    rw [getD_list] at h1 ⊢
    simp only [List.getD_eq_getElem?_getD] at h1 ⊢
    have hl1 : listed.toList.length = l.length := by simp [hsz, hlen]
    rcases Nat.lt_or_ge j l.length with hj | hj
    · rw [List.getElem?_eq_getElem (by omega), List.getElem?_eq_getElem hj] at *
      simp only [Option.getD_some] at h1 ⊢
      rw [h1]; simp
    · rw [List.getElem?_eq_none (by omega), List.getElem?_eq_none hj] at *
      simp only [Option.getD_none] at h1 ⊢
      constructor
      · intro hh; cases hh
      · rintro (hh | hh | ⟨_, hh⟩)
        · cases hh
        · exfalso
          have := hIu j (hSI j hh)
          simp only [List.getD_eq_getElem?_getD, List.getElem?_eq_none hj] at this
          cases this
        · exfalso
          subst hh
          have := hsu
          simp only [List.getD_eq_getElem?_getD, List.getElem?_eq_none hj] at this
          cases this
   -- one is ready
   have hready : ∃ i0, i0 ∈ Region.ready .any ops listed ∧ listed.toList[i0]? = some false := by
    have fin : ∀ i0 o, ops[i0]? = some o → l.getD i0 true = false → S i0 = false → (b && i0 == s) = false → (∀ j ∈ needI ops i0, listed.getD j false = true) → ∃ i0, i0 ∈ Region.ready .any ops listed ∧ listed.toList[i0]? = some false := by
     intro i0 o ho hu hs0 hb0 hn
     refine ⟨i0, ?_, ?_⟩
     · have : i0 ∈ readyL ops listed.toList := by
        unfold readyL
        rw [List.mem_filter, List.mem_range]
        refine ⟨(Array.getElem?_eq_some_iff.1 ho).1, ?_⟩
        rw [ho]
        simp only [Bool.and_eq_true, Bool.not_eq_true', List.all_eq_true]
        refine ⟨by rw [← getD_list, hli, hu, hs0, hb0]; rfl, fun j hj => ?_⟩
        rw [← getD_list]
        exact hn j (by simpa [needI, ho] using hj)
       exact readyL_spec.1 this
     · have h1 := hli i0
       rw [hu, hs0, hb0, getD_list] at h1
       simp only [List.getD_eq_getElem?_getD] at h1
       cases hx : listed.toList[i0]? with
       | none => rw [hx] at h1; simp at h1
       | some b => rw [hx] at h1; simp at h1; rw [h1]
    by_cases hany : ∃ i ∈ J, S i = false
    · have hex : ∃ pre i r, J = pre ++ i :: r ∧ S i = false ∧ ∀ j ∈ pre, S j = true := by
       have := hany
       clear hto hm hr hN hrest spec mem hnd hnI hd hIu hIf k1 k2 k3 k4 k5 k6 ih hli hcl hSI hv' hcrI dinj hB hE hEf hEt hEget hEn hErf hEfnd ks1 ks4 k9 hsJ hC9 lf fin hany hsto
       induction J with
       | nil => obtain ⟨i, hi, _⟩ := this; simp at hi
       | cons x J ih =>
        cases hx : S x with
        | false => exact ⟨[], x, J, rfl, hx, by simp⟩
        | true =>
         obtain ⟨i, hi, hs⟩ := this
         have hi' : i ∈ J := (List.mem_cons.1 hi).resolve_left (fun e => by rw [e, hx] at hs; cases hs)
         obtain ⟨pre, j, r, e, hj, hp⟩ := ih ⟨i, hi', hs⟩
         exact ⟨x :: pre, j, r, by rw [e]; rfl, hj, fun k hk => (List.mem_cons.1 hk).elim (fun e => e ▸ hx) (hp k)⟩
      obtain ⟨pre0, i0, r0, e0, hs0, hp0⟩ := hex
      have hi0 : i0 ∈ J := by rw [e0]; simp
      obtain ⟨⟨o, ho⟩, hu, hn⟩ := spec pre0 i0 r0 e0
      refine fin i0 o ho hu hs0 ?_ fun j hj => (lf j).2 ?_
      · have : (i0 == s) = false := by rw [beq_eq_false_iff_ne]; intro e; exact hsJ (by rw [← e]; exact hi0)
        rw [this, Bool.and_false]
      · exact (hn j hj).imp id (fun h => .inl (hp0 j h))
    · have hall : ∀ i ∈ J, S i = true := fun i hi => by
       cases hs : S i with
       | true => rfl
       | false => exact (hany ⟨i, hi, hs⟩).elim
      have hb : b = false := by
       cases b with
       | false => rfl
       | true =>
        exfalso
        have : (J.filter fun i => !S i) = [] := List.filter_eq_nil_iff.2 fun i hi => by rw [hall i hi]; simp
        rw [this] at hm
        simp at hm
      have hS : S s = false := by
       cases hs : S s with
       | false => rfl
       | true => exact (hsJ (hSI s hs)).elim
      refine fin s os hos hsu hS (by rw [hb]; rfl) fun j hj => (lf j).2 ?_
      have := ks4 j hj
      simp only [Bool.or_eq_true, inL_mem] at this
      exact this.imp id fun h => .inl (hall j h)
   obtain ⟨i0, hready0, hx0⟩ := hready
   cases N with
   | zero =>
    exfalso
    have := count_set hx0
    omega
   | succ N =>
    refine ⟨fun e => by rw [e] at hready0; simp at hready0, fun i hi => ?_⟩
    have hi' := readyL_spec.2 hi
    unfold readyL at hi'
    rw [List.mem_filter, List.mem_range] at hi'
    obtain ⟨hilt, hi'⟩ := hi'
    cases ho : ops[i]? with
    | none => rw [ho] at hi'; simp at hi'
    | some o =>
    rw [ho] at hi'
    simp only [Bool.and_eq_true, Bool.not_eq_true', List.all_eq_true] at hi'
    obtain ⟨hiu, hin⟩ := hi'
    have hneed0 : ∀ j ∈ needI ops i, l.getD j false = true ∨ S j = true ∨ (b = true ∧ j = s) := fun j hj => by
     refine (lf j).1 ?_
     rw [getD_list]
     exact hin j (by simpa [needI, ho] using hj)
    rw [← getD_list, hli] at hiu
    simp only [Bool.or_eq_false_iff] at hiu
    obtain ⟨hiu1, hiu2, hiu3⟩ := hiu
    have hx : listed.toList[i]? = some false := by
     have h1 := hli i
     rw [hiu1, hiu2, hiu3, getD_list] at h1
     simp only [List.getD_eq_getElem?_getD] at h1
     cases hx : listed.toList[i]? with
     | none => rw [hx] at h1; simp at h1
     | some b => rw [hx] at h1; simp at h1; rw [h1]
    have hclJ : ∀ i, S i = true → ∀ j ∈ needI ops i, j ∈ J → S j = true := fun i hi j hj hjI => (hcl i hi j hj).resolve_left (fun e => by rw [hIf j hjI] at e; cases e)
    have hneedJ : ∀ j ∈ (needI ops i).filter (fun j => inL j J), S j = true := fun x hx => by
     simp only [List.mem_filter, inL_mem] at hx
     rcases hneed0 x hx.1 with h | h | ⟨_, h⟩
     · rw [hIf x hx.2] at h; cases h
     · exact h
     · exact (hsJ (h ▸ hx.2)).elim
    have hli' : ∀ (S' : Nat → Bool) (b' : Bool), (∀ j, (S' j || (b' && j == s)) = ((S j || (b && j == s)) || j == i)) → ∀ j, (listed.setIfInBounds i true).getD j true = (l.getD j true || (S' j || (b' && j == s))) := by
     intro S' b' hSb j
     rw [hSb j]
     by_cases hj : i = j
     · subst hj
       have : i < listed.size := by rw [hsz]; exact hilt
       simp [Array.getD_eq_getD_getElem?, this]
     · have hj' : ¬ j = i := fun e => hj e.symm
       have e3 : (listed.setIfInBounds i true).getD j true = listed.getD j true := by simp [Array.getD_eq_getD_getElem?, Array.getElem?_setIfInBounds_ne hj]
       rw [e3, hli]
       have : (j == i) = false := by simpa using hj'
       simp only [this, Bool.or_false]
    have hcnt : (listed.setIfInBounds i true).toList.count false ≤ N := by
     have := count_set hx
     have e3 : (listed.setIfInBounds i true).toList = listed.toList.set i true := by simp
     rw [e3]
     omega
    by_cases his : i = s
    · -- the store
      subst his
      have hb : b = false := by
       cases b with
       | false => rfl
       | true => simp at hiu3
      subst hb
      have hcov : ∀ c ∈ cov ops J ((needI ops i).filter (fun j => inL j J)), S c = true := cov_sub (ops := ops) (I := J) (S := S) hclJ _ hneedJ
      have hcovJ : ∀ c ∈ cov ops J ((needI ops i).filter (fun j => inL j J)), c ∈ J := fun c hc => hSI c (hcov c hc)
      rw [hEf] at hr
      refine wpOp_mono (fun a' w' hr' => ?_) (hsto (effS ops v S J st) (fun t ht => ?_) ?_ (by rw [effS_rf, effS_rf]) w0 ok0 a w Q hr)
      · refine ih S true (listed.setIfInBounds i true) N a' w' (by simp at hm ⊢; omega) hSI hcl (fun _ => hcov) (by simpa using hsz) (hli' S true fun j => by simp) hcnt ?_
        rw [hEt]; exact hr'
      · by_cases hj : ∃ j ∈ J, dstOf ops j = some t
        · obtain ⟨j, hjI, hjd⟩ := hj
          by_cases htl : t < st.n
          rotate_left
          · rw [effS_out htl rfl, effS_out htl rfl]
          rw [effS_yes hjd (hcov j (hC9 j hjI t hjd ht)) hjI htl hnd, effS_yes hjd rfl hjI htl hnd]
        · rw [effS_no (fun j hj' _ e => hj ⟨j, hj', e⟩), effS_no (fun j hj' _ e2 => hj ⟨j, hj', e2⟩)]
      · by_cases hc : ∃ c ∈ J, (v c).2.isSome = true ∧ dstOf ops c = some t0
        · obtain ⟨c, hcJ, hcv, hcd⟩ := hc
          rw [effS_fyes hcd (hcov c (hC9 c hcJ t0 hcd htl0)) hcv hcJ hnd, effS_fyes hcd rfl hcv hcJ hnd]
        · rw [effS_fno (fun j hj _ hjc e2 => hc ⟨j, hj, hjc, e2⟩), effS_fno (fun j hj _ hjc e2 => hc ⟨j, hj, hjc, e2⟩)]
    have hiI : i ∈ J := by
     by_cases hiI : i ∈ J
     · exact hiI
     · exfalso
       have h5 := k5 i (List.mem_range.2 hilt)
       simp only [Bool.or_eq_true, hiu1, inL_mem, List.any_eq_true, Bool.and_eq_true, Bool.not_eq_true', Bool.eq_false_iff, ne_eq, List.all_eq_true] at h5
       rcases h5 with (((h5 | h5) | h5) | ⟨j, hj, ⟨h6, h7⟩, h8⟩) | ⟨h5, h6⟩
       · cases h5
       · exact hiI h5
       · exact his (Nat.eq_of_beq_eq_true h5)
       · rcases hneed0 j hj with h9 | h9 | ⟨_, h9⟩
         · exact h6 h9
         · exact h7 (hSI j h9)
         · exact h8 (by rw [h9]; simp)
       · have hb : b = true := by
          rcases hneed0 s h5 with h9 | h9 | ⟨h9, _⟩
          · rw [hsf] at h9; cases h9
          · exact (hsJ (hSI s h9)).elim
          · exact h9
         subst hb
         have hall : ∀ j ∈ J, S j = true := fun j hj => cov_sub (ops := ops) (I := J) (S := S) hclJ _ hneedJ j (h6 j hj)
         have : (J.filter fun i => !S i) = [] := List.filter_eq_nil_iff.2 fun i hi => by rw [hall i hi]; simp
         rw [this] at hm
         simp at hm
    obtain ⟨pre, r, fb, e, hst, hfb, hTi⟩ := hv' i hiI
    have hneed : ∀ j ∈ needI ops i, l.getD j false = true ∨ S j = true := fun j hj => by
     rcases hneed0 j hj with h | h | ⟨_, h⟩
     · exact .inl h
     · exact .inr h
     · subst h
       rcases (spec pre i r e).2.2 j hj with h | h
       · exact .inl h
       · exact (hsJ (by rw [e]; exact List.mem_append_left _ h)).elim
    -- what it needs is ahead of it
    have hpre : ∀ x ∈ pre, x ∈ J := fun x hx => by rw [e]; exact List.mem_append_left _ hx
    have hclP : ∀ x, decide (x ∈ pre) = true → ∀ j ∈ needI ops x, j ∈ J → decide (j ∈ pre) = true := by
     intro x hx j hj hjJ
     simp only [decide_eq_true_eq] at hx ⊢
     obtain ⟨p1, p2, ep⟩ := List.append_of_mem hx
     have := (spec p1 x (p2 ++ i :: r) (by rw [e, ep]; simp)).2.2 j hj
     rcases this with h | h
     · rw [hIf j hjJ] at h; cases h
     · rw [ep]; exact List.mem_append_left _ h
    have hclos : ∀ c ∈ cov ops J ((needI ops i).filter (fun j => inL j J)), S c = true ∧ c ∈ pre := by
     intro c hc
     refine ⟨cov_sub (ops := ops) (I := J) (S := S) hclJ _ hneedJ c hc, ?_⟩
     have := cov_sub (ops := ops) (I := J) (S := fun x => decide (x ∈ pre)) hclP _ (fun x hx => by
      simp only [List.mem_filter, inL_mem] at hx
      simp only [decide_eq_true_eq]
      exact ((spec pre i r e).2.2 x hx.1).resolve_left (fun h => by rw [hIf x hx.2] at h; cases h)) c hc
     simpa using this
    have hnpre : (pre.filterMap (dstOf ops)).Nodup := by
     rw [e, List.filterMap_append] at hnd
     exact (List.nodup_append.1 hnd).1
    have hagree : ∀ t ∈ looksI ops i, (effS ops v S J st).get t = (effS ops v (fun _ => true) pre st).get t := by
     intro t ht
     by_cases hj : ∃ j ∈ J, dstOf ops j = some t
     · obtain ⟨j, hjI, hjd⟩ := hj
       by_cases htl : t < st.n
       rotate_left
       · rw [effS_out htl rfl, effS_out htl rfl]
       rcases looksOK_spec (k4 i hiI) j hjI t hjd ht with ⟨hjn, hji⟩ | ⟨hjn, hji⟩
       · have hjS : S j = true := (hneed j hjn).resolve_left (fun e => by rw [hIf j hjI] at e; cases e)
         have hjp : j ∈ pre := ((spec pre i r e).2.2 j hjn).resolve_left (fun e => by rw [hIf j hjI] at e; cases e)
         rw [effS_yes hjd hjS hjI htl hnd, effS_yes hjd rfl hjp htl hnpre]
       · rw [effS_no, effS_no]
         · intro k hk _ ek
           have := dinj k (hpre k hk) j hjI t ek hjd
           subst this
           obtain ⟨p1, p2, ep⟩ := List.append_of_mem hk
           have := (spec p1 k (p2 ++ i :: r) (by rw [e, ep]; simp)).2.2 i hjn
           rcases this with h | h
           · rw [hIf i hiI] at h; cases h
           · have hn := hnI
             rw [e, ep] at hn
             have := (List.nodup_append.1 hn).2.2 i (List.mem_append_left _ h) i (List.mem_cons_self ..)
             exact this rfl
         · intro k hk hkS ek
           have := dinj k hk j hjI t ek hjd
           subst this
           have := hclJ k hkS i hjn hiI
           rw [hiu2] at this; cases this
     · rw [effS_no (fun j hj' _ e => hj ⟨j, hj', e⟩), effS_no (fun j hj' _ e2 => hj ⟨j, hpre j hj', e2⟩)]
    have hcovB : b = true → i ∉ cov ops J ((needI ops s).filter (fun j => inL j J)) := fun hb hc => by
     rw [hB hb i hc] at hiu2; cases hiu2
    have hsim : Sim (eff (E S b) (dstOf ops i) (v i).1 (v i).2) (E (fun j => S j || j == i) b) := by
     have hadd := effS_add (v := v) (st := st) hiI hiu2 hnd hd
     cases hb : b with
     | false => rw [hEf, hEf]; exact hadd
     | true =>
      obtain ⟨d, hdi⟩ := hd i hiI
      have hdt : d ≠ t0 := (hTi.resolve_left (hcovB hb)).2 d hdi
      rw [hEt, hEt]
      refine ⟨?_, fun t => ?_, fun id => ?_, fun id off => by rw [eff_rf, upd_rf, upd_rf, effS_rf, effS_rf]⟩
      · rw [eff_len]; show (effS ops v S J st).n = (effS ops v _ J st).n; rw [effS_len, effS_len]
      · rw [upd_get, ← hadd.get, eff_get, eff_get]; rfl
      · rw [eff_fnd]
        unfold upd
        rw [fnd_ins, fnd_ins, ← hadd.hp, eff_fnd]
        by_cases hid : id = t0
        · subst hid
          rw [if_neg (fun h => hdt (by rw [hdi] at h; exact Option.some.inj h.1)), if_pos rfl, if_pos rfl]
        · rw [if_neg hid, if_neg hid]
    have hnext : ∀ a' w', RelE w0 ok0 (eff (E S b) (dstOf ops i) (v i).1 (v i).2) a' w' → wpAny P .any ops Q N (listed.setIfInBounds i true) a' w' := by
     intro a' w' hr0
     have hr' := hsim.ent _ _ _ _ hr0
     clear hr0
     refine ih (fun j => S j || j == i) b (listed.setIfInBounds i true) N a' w' ?_ ?_ ?_ ?_ ?_ (hli' _ b fun j => ?_) hcnt hr'
     · have : (J.filter fun j => !S j).length = (J.filter fun j => !(S j || j == i)).length + 1 := by
        clear hto hm hr hr' hN hrest spec mem hnd hd hIu hIf k1 k2 k3 k4 k5 k6 ih hli hcl hSI e hst hagree lf hready0 hi hin hneed hv' hcrI dinj hpre hclP hclos hclJ hneedJ hfb hB hE hEf hEt hEget hEn hErf hEfnd ks1 ks4 k9 hsJ hC9 hsim hTi hcovB hli' hneed0 hsto
        induction J with
        | nil => simp at hiI
        | cons x I ih =>
         obtain ⟨hxI, hnI'⟩ := List.nodup_cons.1 hnI
         by_cases hxi : x = i
         · subst hxi
           have e1 : (I.filter fun j => !(S j || j == x)) = I.filter fun j => !S j := by
            refine List.filter_congr fun j hj => ?_
            have : j ≠ x := fun e => hxI (e ▸ hj)
            simp [this]
           rw [List.filter_cons_of_pos (by simp [hiu2]), List.filter_cons_of_neg (by simp), e1]
           rfl
         · have hiI' : i ∈ I := (List.mem_cons.1 hiI).resolve_left (fun e => hxi e.symm)
           have := ih hnI' hiI'
           cases hsx : S x with
           | true => rw [List.filter_cons_of_neg (by simp [hsx]), List.filter_cons_of_neg (by simp [hsx])]; exact this
           | false => rw [List.filter_cons_of_pos (by simp [hsx]), List.filter_cons_of_pos (by simp [hsx, hxi])]; simp only [List.length_cons]; omega
       omega
     · intro j hj
       simp only [Bool.or_eq_true, beq_iff_eq] at hj
       rcases hj with hj | rfl
       · exact hSI j hj
       · exact hiI
     · intro j hj k hk
       simp only [Bool.or_eq_true, beq_iff_eq] at hj ⊢
       rcases hj with hj | rfl
       · exact (hcl j hj k hk).imp id .inl
       · exact (hneed k hk).imp id .inl
     · intro hb c hc
       show (S c || c == i) = true
       rw [hB hb c hc]; rfl
     · simpa using hsz
     · show ((S j || j == i) || (b && j == s)) = _
       cases S j <;> cases (j == i) <;> cases (b && j == s) <;> rfl
    have hagree' : ∀ t ∈ looksI ops i, (E S b).get t = (effS ops v (fun _ => true) pre st).get t := fun t ht => by rw [hEget]; exact hagree t ht
    rcases hst with ⟨ex, hst⟩ | hst
    · refine wpOp_mono hnext ?_
      rw [ex]
      exact hst _ hagree' w0 ok0 a w Q hr
    · refine wpOp_mono hnext (hst.stp _ (fun t ht => ⟨hagree' t ht, fun _ id hid => agD_of (by rw [hErf, effS_rf]) (fun id off j hj => ?_) 4 id ?_⟩) ?_ w0 ok0 a w Q hr)
      · rw [effS_rf] at hj
        have hjt : j ≠ t0 := fun e => by
         have := hto id off
         rw [effS_rf] at this
         exact this (e ▸ hj)
        rw [hEfnd S b j (.inl hjt)]
        have hno : ∀ c ∈ J, (v c).2.isSome = true → dstOf ops c ≠ some j := by
         intro c hcJ hcv hcd
         have hccr : c ∈ cr := by
          obtain ⟨_, _, _, _, hd1, _, _⟩ := hv' c hcJ
          rcases hd1 with ⟨ex, _⟩ | hd1
          · rw [ex] at hcv; cases hcv
          · exact hd1.makes hcv
         obtain ⟨d, hd1, hd2⟩ := hfresh c hccr
         rw [hcd] at hd1
         cases hd1
         exact (hd2.2.2 id off).1 hj
        rw [effS_fno (fun c hc _ => hno c hc), effS_fno (fun c hc _ => hno c (hpre c hc))]
      · have hidt : id ≠ t0 ∨ b = false := by
         cases hb : b with
         | false => exact .inr rfl
         | true =>
          refine .inl fun e => ?_
          exact hst.looks t ht id hid (e ▸ (hTi.resolve_left (hcovB hb)).1)
        rw [hEfnd S b id hidt]
        by_cases hc : ∃ c ∈ J, (v c).2.isSome = true ∧ dstOf ops c = some id
        · obtain ⟨c, hcJ, hcv, hcd⟩ := hc
          have hccr : c ∈ cr := by
           obtain ⟨_, _, _, _, hd1, _, _⟩ := hv' c hcJ
           rcases hd1 with ⟨ex, _⟩ | hd1
           · rw [ex] at hcv; cases hcv
           · exact hd1.makes hcv
          obtain ⟨d, hd1, hd2⟩ := hfb c hccr
          rw [hcd] at hd1
          cases hd1
          obtain ⟨h1, h2⟩ := hclos c (hd2.resolve_left (hst.looks t ht id hid))
          rw [effS_fyes hcd h1 hcv hcJ hnd, effS_fyes hcd rfl hcv h2 hnpre]
        · rw [effS_fno (fun j hj _ hjc e2 => hc ⟨j, hj, hjc, e2⟩), effS_fno (fun j hj _ hjc e2 => hc ⟨j, hpre j hj, hjc, e2⟩)]
      · by_cases hc : (v i).2 = none
        · exact .inl hc
        · right
          have hicr := hst.makes (Option.isSome_iff_ne_none.2 hc)
          obtain ⟨d, hdi, hfd⟩ := hfresh i hicr
          refine ⟨d, hdi, by rw [hEn]; exact hfd.1, fun t htd => ?_, fun id off => by rw [hErf]; exact hfd.2.2 id off⟩
          rw [hEget]
          by_cases hj : ∃ j ∈ J, S j = true ∧ dstOf ops j = some t
          · obtain ⟨j, hjJ, hjS, hjd⟩ := hj
            by_cases htl : t < st.n
            rotate_left
            · rw [effS_out htl rfl]; exact hfd.2.1 t htd
            rw [effS_yes hjd hjS hjJ htl hnd]
            intro hm
            obtain ⟨_, _, fbj, _, hdj, hfbj, _⟩ := hv' j hjJ
            rcases hdj with ⟨ex, _⟩ | hdj
            · rw [ex] at hm; simp [AV.refs, refsL] at hm
            · rcases hdj.val d hm with h1 | h1
              · obtain ⟨d', h2, h3⟩ := hfbj i hicr
                rw [hdi] at h2
                cases h2
                have := cov_sub (ops := ops) (I := J) (S := S) hclJ _ (fun x hx => by
                 simp only [List.mem_filter, inL_mem] at hx
                 exact hclJ j hjS x hx.1 hx.2) i (h3.resolve_left h1)
                rw [hiu2] at this; cases this
              · rw [hjd] at h1; exact htd (Option.some.inj h1)
          · rw [effS_no (fun j hj' hjS e2 => hj ⟨j, hj', hjS, e2⟩)]
            exact hfd.2.1 t htd
 have hsz : listed.size = ops.size := by rw [← hlen, ← hl]; simp
 refine claim _ (fun _ => false) false listed N a w rfl (by simp) (by simp) (fun h => by cases h) hsz (fun j => by rw [getD_list, hl]; simp) (by rw [hl]; exact hN) ?_
 have : effS ops v (fun _ => false) J st = st := by
  clear hto hr hN hrest spec mem hnd hnI hd hIu hIf k1 k2 k3 k4 k5 k6 claim hv' hcrI dinj hE hEf hEt hEget hEn hErf hEfnd ks1 ks4 k9 hsJ hC9 hsto
  induction J with
  | nil => rfl
  | cons x I ih => unfold effS; simpa using ih
 rw [hEf, this]; exact hr
end
end
end Go.Iv
