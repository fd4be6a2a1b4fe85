/- Plain specifications: a ref's sector; finding; opening. -/
import Derived.Test.YtecohedcbnfibaaDoorYM6
namespace Go.Iw
open Go.Iv
set_option linter.unusedVariables false
set_option linter.unusedSimpArgs false
set_option maxRecDepth 100000

abbrev rZ : Ref := (noStr, ((List.replicate 32 (0 : Int)), (false, ())))
def bodR (r : Ref) : List Int := (([1, (bif r.2.2.1 then 1 else 0), ((r.1.size : Nat) : Int)] ++ strL r.1) ++ List.replicate (12 - r.1.size) 0) ++ r.2.1
def packR (r : Ref) : List Int := if r.1 = noStr then [] else sealS (bodR r)
def secR (r : Ref) : List Int := padS (packR r)
structure WfR (r : Ref) : Prop where
  len : r.2.1.length = 32
  byt : Byt r.2.1
def GoodR (r : Ref) : Prop := WfR r ∧ (r = rZ ∨ rightB r.1 = true)
theorem rightB_size {s : ByteArray} (h : rightB s = true) : s.size ≤ 12 ∧ s.size ≠ 0 ∧ s ≠ noStr := by
  unfold rightB at h
  rw [Bool.and_eq_true, Bool.and_eq_true, Nat.ble_eq, bne_iff_ne] at h
  refine ⟨h.2, h.1.2, fun e => h.1.2 ?_⟩
  rw [e]; rfl
theorem wfZ : WfR rZ := ⟨by rw [List.length_replicate], Byt.zeros 32⟩
theorem goodZ : GoodR rZ := ⟨wfZ, .inl rfl⟩
theorem bodR_len {r : Ref} (h : r.1.size ≤ 12) (hk : WfR r) : (bodR r).length = 47 := by
  unfold bodR
  rw [List.length_append, List.length_append, List.length_append, List.length_replicate, strL_len, hk.len]
  show 3 + r.1.size + (12 - r.1.size) + 32 = 47
  omega
theorem bodR_byt {r : Ref} (h : r.1.size ≤ 12) (hk : WfR r) : Byt (bodR r) := by
  unfold bodR
  refine ((Byt.append (Byt.cons (by decide) (Byt.cons ?_ (Byt.cons ⟨by omega, by omega⟩ Byt.nil))) (byt_strL _)).append (Byt.zeros _)).append hk.byt
  cases r.2.2.1 <;> decide
theorem wrap_u8_size {n : Nat} (h : n ≤ 255) : IntKind.wrap .u8 (n : Int) = (n : Int) := wrap_small_u8 (by omega) (by omega)
theorem label_pack {r : Ref} {K : List Int → Prop} (h : r.1.size ≤ 12) (hk : WfR r) (hK : K (packR r)) : label.pack r K := by
  unfold label.pack
  unfold packR at hK
  rw [beq_str]
  by_cases hn : r.1 = noStr
  · rw [if_pos hn] at hK
    rw [decide_eq_true hn, br_true]; exact hK
  · rw [if_neg hn] at hK
    rw [decide_eq_false hn, br_false, wrap_u8_size (by omega)]
    have e12 : IntKind.wrap .i64 ((12 : Int) - (((ByteArray.size r.1) : Nat) : Int)) = ((12 - r.1.size : Nat) : Int) := by
      rw [wrap_small (by omega) (by omega)]; omega
    have key : ∀ op3 : List Int, op3.length = 3 → K (sealS (((op3 ++ strL r.1) ++ List.replicate (12 - r.1.size) 0) ++ r.2.1)) → label.pack.j25 K r op3 := fun op3 h3 hk2 => by
      unfold label.pack.j25
      rw [e12, Int.toNat_natCast]
      have l1 := strL_len r.1
      have l2 := hk.len
      refine ⟨⟨by omega, by omega⟩, by omega, ⟨?_, ?_⟩, ⟨?_, ?_⟩, check_Seal hk2⟩
      · rw [List.length_append, List.length_replicate]; omega
      · rw [List.length_append, List.length_replicate]; omega
      · rw [List.length_append, List.length_append, List.length_replicate]; omega
      · rw [List.length_append, List.length_append, List.length_replicate]; omega
    have hK' : K (sealS (bodR r)) := hK
    unfold bodR at hK'
    cases hf : r.2.2.1 with
    | true =>
      rw [hf] at hK'
      rw [br_true]
      refine ⟨⟨by decide, by show (1 : Int) < ((3 : Nat) : Int); decide⟩, by show 1 < 3; decide, key _ rfl hK'⟩
    | false =>
      rw [hf] at hK'
      rw [br_false]
      exact key _ rfl hK'
def decR (s : List Int) : Ref := if s = List.replicate 64 0 then rZ else (bytesOf ((s.take (3 + (s.getD 2 0).toNat)).drop 3), (((s.drop 15).take 32), (s.getD 1 0 == 1, ())))
theorem secR_z : secR rZ = List.replicate 64 0 := rfl
theorem packR_name {r : Ref} (h : r.1 ≠ noStr) : packR r = sealS (bodR r) := by unfold packR; rw [if_neg h]
theorem secR_name {r : Ref} (h : r.1 ≠ noStr) : secR r = sealS (bodR r) := by unfold secR; rw [packR_name h, padS_full (sealS_len _)]
theorem packR_len (r : Ref) : (packR r).length ≤ 64 := by
  unfold packR
  split
  · exact Nat.zero_le _
  · rw [sealS_len]; exact Nat.le_refl _
theorem packR_byt {r : Ref} (h : r.1.size ≤ 12) (hk : WfR r) : Byt (packR r) := by
  unfold packR
  split
  · exact Byt.nil
  · exact sealS_byt (bodR_byt h hk)
theorem good_size {r : Ref} (h : GoodR r) : r.1.size ≤ 12 := by
  rcases h.2 with e | e
  · rw [e]; decide
  · exact (rightB_size e).1
theorem sealS_eq (p : List Int) (h : p.length ≤ 60) : sealS p = p ++ (List.replicate (60 - p.length) 0 ++ fourS (crcOf (cpy p (List.replicate 60 0)))) := by
  have e : cpy p (List.replicate 60 0) = p ++ List.replicate (60 - p.length) 0 := cpy_pad p 60 h
  unfold sealS
  conv => lhs; lhs; rw [e]
  rw [List.append_assoc]
theorem sec_parts {r : Ref} (h : r.1.size ≤ 12) (hk : WfR r) (hn : r.1 ≠ noStr) : ∃ t, secR r = 1 :: (bif r.2.2.1 then 1 else 0) :: ((r.1.size : Nat) : Int) :: (strL r.1 ++ (List.replicate (12 - r.1.size) 0 ++ (r.2.1 ++ t))) := by
  rw [secR_name hn, sealS_eq _ (by rw [bodR_len h hk]; decide)]
  generalize List.replicate (60 - (bodR r).length) (0 : Int) ++ fourS (crcOf (cpy (bodR r) (List.replicate 60 0))) = T
  refine ⟨T, ?_⟩
  unfold bodR
  rw [List.append_assoc, List.append_assoc, List.append_assoc]
  rfl
theorem dec_sec {r : Ref} (h : GoodR r) : decR (secR r) = r := by
  rcases h.2 with e | e
  · rw [e, secR_z]; unfold decR; rw [if_pos rfl]
  · obtain ⟨h1, h2, hn⟩ := rightB_size e
    obtain ⟨t, ht⟩ := sec_parts h1 h.1 hn
    unfold decR
    rw [if_neg]
    · have l1 := strL_len r.1
      have a1 : (secR r).getD 2 0 = ((r.1.size : Nat) : Int) := by rw [ht]; rfl
      have a2 : (secR r).getD 1 0 = (bif r.2.2.1 then 1 else 0) := by rw [ht]; rfl
      have a3 : ((secR r).take (3 + r.1.size)).drop 3 = strL r.1 := by
        rw [ht, show 3 + r.1.size = r.1.size + 1 + 1 + 1 from by omega]
        show (strL r.1 ++ _).take r.1.size = _
        rw [List.take_append_of_le_length (by omega), List.take_of_length_le (by omega)]
      have a4 : ((secR r).drop 15).take 32 = r.2.1 := by
        rw [ht]
        show ((strL r.1 ++ (List.replicate (12 - r.1.size) 0 ++ (r.2.1 ++ t))).drop 12).take 32 = _
        rw [← List.append_assoc]
        have l3 : (strL r.1 ++ List.replicate (12 - r.1.size) (0 : Int)).length = 12 := by rw [List.length_append, List.length_replicate]; omega
        rw [List.drop_append_of_le_length (by omega), List.drop_of_length_le (by omega), List.nil_append, List.take_append_of_le_length (by rw [h.1.len]; exact Nat.le_refl _), List.take_of_length_le (by rw [h.1.len]; exact Nat.le_refl _)]
      rw [a1, Int.toNat_natCast, a2, a3, a4, bytesOf_strL]
      have a5 : (((bif r.2.2.1 then 1 else 0) : Int) == 1) = r.2.2.1 := by cases r.2.2.1 <;> rfl
      rw [a5]
    · rw [ht]
      intro e2
      have := congrArg (·.headD 0) e2
      cases this
theorem sec_inj {r r' : Ref} (h : GoodR r) (h' : GoodR r') (e : secR r = secR r') : r = r' := by rw [← dec_sec h, ← dec_sec h', e]
theorem getD_take60 {s : List Int} (k : Nat) (hk : k < 60) : (s.take 60).getD k 0 = s.getD k 0 := getD_take hk _
theorem ix_getD {α : Type} (z : α) (xs : List α) (i : Nat) : ix z xs (i : Int) = xs.getD i z := by unfold ix; rw [Int.toNat_natCast]
theorem label_unpack {s : List Int} {K : Ref → Bool → Prop} (hs : s.length = 64) (hb : Byt s) (hok : ∀ r, GoodR r → secR r = s → K r true) (hno : (∀ r, GoodR r → secR r ≠ s) → K rZ false) : label.unpack s K := by
  unfold label.unpack
  refine ⟨⟨by decide, by decide, by decide, by decide⟩, ?_⟩
  have hz : Byt (List.replicate (Int.toNat (64 : Int)) (0 : Int)) := Byt.zeros 64
  rw [beq_bytes hb hz]
  by_cases hzero : s = List.replicate (Int.toNat (64 : Int)) (0 : Int)
  · rw [decide_eq_true hzero, br_true]
    exact hok rZ goodZ (secR_z.trans hzero.symm)
  · rw [decide_eq_false hzero, br_false]
    have named : ∀ r, GoodR r → secR r = s → r.1 ≠ noStr ∧ rightB r.1 = true := fun r hr e => by
      rcases hr.2 with e2 | e2
      · exact (hzero (by rw [← e, e2]; exact secR_z)).elim
      · exact ⟨(rightB_size e2).2.2, e2⟩
    refine check_Open hb ?_
    unfold openS
    by_cases hop : s.length = 64 ∧ sealS (s.take 60) = s
    · rw [if_pos hop]
      dsimp only
      rw [Bool.not_true, br_false]
      have lp : (s.take 60).length = 60 := by rw [List.length_take]; omega
      have bp : Byt (s.take 60) := hb.take 60
      have i0 : ix (0 : Int) (s.take 60) (0 : Int) = s.getD 0 0 := (ix_getD _ _ 0).trans (getD_take60 0 (by decide))
      have i1 : ix (0 : Int) (s.take 60) (1 : Int) = s.getD 1 0 := (ix_getD _ _ 1).trans (getD_take60 1 (by decide))
      have i2 : ix (0 : Int) (s.take 60) (2 : Int) = s.getD 2 0 := (ix_getD _ _ 2).trans (getD_take60 2 (by decide))
      rw [i0, i1, i2]
      have parts : ∀ r, GoodR r → secR r = s → s.getD 0 0 = 1 ∧ s.getD 1 0 ≤ 1 ∧ s.getD 2 0 ≤ 12 := fun r hr e => by
        obtain ⟨h1, h2⟩ := named r hr e
        obtain ⟨t, ht⟩ := sec_parts (good_size hr) hr.1 h1
        have hsz := good_size hr
        rw [← e, ht]
        refine ⟨rfl, ?_, ?_⟩
        · show (bif r.2.2.1 then 1 else 0 : Int) ≤ 1
          cases r.2.2.1 <;> decide
        · show ((r.1.size : Nat) : Int) ≤ 12
          omega
      have bad : ∀ (ot : Ref), ot = rZ → (∀ r, GoodR r → secR r ≠ s) → label.unpack.j10 (fun t3 ot2 => K ot2 t3) s (s.take 60) true ot := fun ot _ h => by
        unfold label.unpack.j10
        rw [br_true]
        exact hno h
      have b2 : 0 ≤ s.getD 2 0 ∧ s.getD 2 0 ≤ 255 := by
        rw [List.getD_eq_getElem?_getD, List.getElem?_eq_getElem (by omega)]
        exact hb _ (List.getElem_mem _)
      refine ⟨⟨by decide, by omega⟩, ?_⟩
      by_cases c0 : s.getD 0 0 = 1
      rotate_left
      · have : (s.getD 0 0 != (1 : Int)) = true := by rw [bne_iff_ne]; exact c0
        rw [this, br_true]
        exact bad _ rfl fun r hr e => c0 (parts r hr e).1
      have e0 : (s.getD 0 0 != (1 : Int)) = false := by rw [c0]; rfl
      rw [e0, br_false]
      refine ⟨⟨by decide, by omega⟩, ?_⟩
      by_cases c1 : s.getD 1 0 ≤ 1
      rotate_left
      · rw [gt_int (by omega), br_true]
        exact bad _ rfl fun r hr e => c1 (parts r hr e).2.1
      rw [ngt_int c1, br_false]
      refine ⟨⟨by decide, by omega⟩, ?_⟩
      by_cases c2 : s.getD 2 0 ≤ 12
      rotate_left
      · rw [gt_int (by omega)]
        exact bad _ rfl fun r hr e => c2 (parts r hr e).2.2
      rw [ngt_int c2]
      unfold label.unpack.j10
      rw [br_false, i1, i2]
      obtain ⟨n, hn⟩ := Int.eq_ofNat_of_zero_le b2.1
      have hn12 : n ≤ 12 := by omega
      have e3 : IntKind.wrap .u8 ((3 : Int) + s.getD 2 0) = ((3 + n : Nat) : Int) := by
        rw [hn, wrap_small_u8 (by omega) (by omega)]; omega
      have sl : List.drop (Int.toNat (3 : Int)) (List.take (Int.toNat (((3 + n : Nat) : Int))) (s.take 60)) = (s.take (3 + n)).drop 3 := by
        rw [Int.toNat_natCast, List.take_take, Nat.min_eq_left (by omega)]; rfl
      have sk : cpy (List.drop (Int.toNat (15 : Int)) (List.take (Int.toNat (((List.length (s.take 60)) : Nat) : Int)) (s.take 60))) (List.replicate 32 (0 : Int)) = (s.drop 15).take 32 := by
        rw [Int.toNat_natCast, List.take_length]
        show cpy ((s.take 60).drop 15) _ = _
        unfold cpy
        rw [List.length_replicate, List.drop_of_length_le (l := List.replicate 32 (0 : Int)) (by rw [List.length_replicate, List.length_drop, List.length_take]; omega), List.append_nil, List.drop_take, List.take_take, Nat.min_eq_left (by decide)]
      rw [e3, sl, sk]
      have hr0 : decR s = (bytesOf ((s.take (3 + n)).drop 3), (((s.drop 15).take 32), (s.getD 1 0 == 1, ()))) := by
        have hz2 : ¬ s = List.replicate 64 0 := hzero
        unfold decR
        rw [if_neg hz2, hn, Int.toNat_natCast]
      generalize hR : ((bytesOf ((s.take (3 + n)).drop 3), (((s.drop 15).take 32), (s.getD 1 0 == 1, ()))) : Ref) = R at hr0 ⊢
      have hR1 : bytesOf ((s.take (3 + n)).drop 3) = R.1 := by rw [← hR]
      have wfR : WfR R := by
        rw [← hR]
        refine ⟨?_, (hb.drop 15).take 32⟩
        show ((s.drop 15).take 32).length = 32
        rw [List.length_take, List.length_drop]; omega
      have szR : R.1.size ≤ 12 := by
        rw [← hR1, bytesOf_size, List.length_drop, List.length_take]; omega
      rw [hR1]
      refine ⟨⟨by decide, by omega⟩, ⟨by omega, by omega⟩, ⟨by decide, by omega⟩, ⟨by decide, by omega⟩, ⟨by omega, by omega⟩, ⟨by decide, by omega⟩, ?_⟩
      show br (!(rightB R.1)) _ _
      cases hrt : rightB R.1 with
      | false =>
        rw [Bool.not_false, br_true]
        unfold label.unpack.j18
        rw [br_true]
        refine hno fun r hr e => ?_
        have : r = R := by rw [← dec_sec hr, e, hr0]
        have h2 := (named r hr e).2
        rw [this, hrt] at h2; cases h2
      | true =>
        rw [Bool.not_true, br_false]
        obtain ⟨_, _, hnn⟩ := rightB_size hrt
        refine label_pack szR wfR ?_
        rw [beq_bytes (packR_byt szR wfR) hb]
        unfold label.unpack.j18
        by_cases hpk : packR R = s
        · rw [decide_eq_true hpk, Bool.not_true, br_false]
          refine hok R ⟨wfR, .inr hrt⟩ ?_
          unfold secR
          rw [hpk, padS_full hs]
        · rw [decide_eq_false hpk, Bool.not_false, br_true]
          refine hno fun r hr e => ?_
          have : r = R := by rw [← dec_sec hr, e, hr0]
          refine hpk ?_
          rw [← e, this, secR_name hnn, packR_name hnn]
    · rw [if_neg hop]
      show br (!false) _ _
      rw [Bool.not_false, br_true]
      unfold label.unpack.j10
      rw [br_true]
      refine hno fun r hr e => hop ⟨hs, ?_⟩
      obtain ⟨h1, h2⟩ := named r hr e
      have hlen := bodR_len (good_size hr) hr.1
      have := openS_seal (p := bodR r) (by omega)
      rw [← secR_name h1, e] at this
      unfold openS at this
      split at this
      · rename_i h; exact h.2
      · cases this

/-! Finding. -/
def fIx : Nat → List Ref → ByteArray → Int
  | _, [], _ => -1
  | i, r :: t, nm => if r.1 = nm then (i : Int) else fIx (i + 1) t nm
theorem IndexFunc_loop (l : List Ref) (nm : ByteArray) (K0 : Int → Prop) (K1 : Prop) (hl : l.length < 1000000) : ∀ (m i : Nat), i + m = l.length → (fIx i (l.drop i) nm = -1 → K1) → (fIx i (l.drop i) nm ≠ -1 → K0 (fIx i (l.drop i) nm)) → slices.IndexFunc_Ref_Ref.l2 K0 K1 (m + 1) l nm ((l.length : Nat) : Int) (i : Int) := by
  intro m
  induction m with
  | zero =>
    intro i hi h1 h0
    unfold slices.IndexFunc_Ref_Ref.l2
    rw [lt_false (by omega), br_false]
    refine h1 ?_
    rw [List.drop_eq_nil_of_le (by omega)]; rfl
  | succ m ih =>
    intro i hi h1 h0
    have hlt : i < l.length := by omega
    rw [List.drop_eq_getElem_cons hlt] at h1 h0
    unfold fIx at h1 h0
    rw [slices.IndexFunc_Ref_Ref.l2]
    rw [lt_true hlt, br_true, ix_nat _ _ _ hlt]
    refine ⟨⟨by omega, by omega⟩, ?_⟩
    unfold label.Table_find_c1
    rw [beq_str]
    by_cases e : l[i].1 = nm
    · rw [if_pos e] at h0
      rw [decide_eq_true e, br_true]
      exact h0 (by omega)
    · rw [if_neg e] at h0 h1
      rw [decide_eq_false e, br_false, wrap_succ i (by omega)]
      exact ih (i + 1) (by omega) h1 h0
theorem Table_find_s {x : Table} {nm : ByteArray} {K : Int → Prop} (hl : x.2.1.length < 1000000) (h : K (fIx 0 x.2.1 nm)) : label.Table_find x nm K := by
  unfold label.Table_find slices.IndexFunc_Ref_Ref
  refine ⟨x.2.1.length + 1, IndexFunc_loop x.2.1 nm K (K (-1)) hl x.2.1.length 0 (by omega) (fun e => ?_) fun _ => h⟩
  rw [show x.2.1.drop 0 = x.2.1 from rfl] at e
  rw [e] at h; exact h
theorem fIx_cases : ∀ (l : List Ref) (i : Nat) (nm : ByteArray), (fIx i l nm = -1 ∧ ∀ k (h : k < l.length), l[k].1 ≠ nm) ∨ (∃ k, ∃ h : k < l.length, fIx i l nm = ((i + k : Nat) : Int) ∧ l[k].1 = nm ∧ ∀ k' (h' : k' < k), (l[k']'(by omega)).1 ≠ nm)
  | [], i, nm => .inl ⟨rfl, fun k h => by simp at h⟩
  | r :: t, i, nm => by
    unfold fIx
    by_cases e : r.1 = nm
    · rw [if_pos e]
      exact .inr ⟨0, by simp, by simp, e, fun k' h' => by omega⟩
    · rw [if_neg e]
      rcases fIx_cases t (i + 1) nm with ⟨h1, h2⟩ | ⟨k, hk, h1, h2, h3⟩
      · refine .inl ⟨h1, fun k hk => ?_⟩
        cases k with
        | zero => exact e
        | succ k => exact h2 k (by simpa using hk)
      · refine .inr ⟨k + 1, by simpa using hk, by rw [h1]; congr 1; omega, h2, fun k' hk' => ?_⟩
        cases k' with
        | zero => exact e
        | succ k' => exact h3 k' (by omega)
end Go.Iw
