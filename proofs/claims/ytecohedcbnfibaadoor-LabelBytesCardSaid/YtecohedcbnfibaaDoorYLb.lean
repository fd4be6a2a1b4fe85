/- Plain laws: what stands on the disk: a ref's sector, sealed. -/
import Derived.Test.YtecohedcbnfibaaDoorYM9
import Derived.Test.YtecohedcbnfibaaDoorYM10
import Derived.Test.YtecohedcbnfibaaDoorYM11
namespace Go.Iw
open Go.Iv
set_option linter.unusedVariables false
set_option linter.unusedSimpArgs false
set_option maxRecDepth 100000
set_option maxHeartbeats 4000000

theorem labelBytes_j41 (name : ByteArray) (key : List Int) (fast : Bool) (hs : name.size ≤ 12) (hn : name ≠ noStr) (hk : WfR (name, (key, (fast, ())))) (K : Bool → Prop) (h : K true) (N : Nat) (C : List (List Int)) (l : List Ref) (s : List (List Int)) (w : List write) (j : JournalH) (d : DiskH)
    (ht : Tab N C l s w j d) (h48 : C.getD 48 [] = secR (name, (key, (fast, ())))) : law08.LabelBytes.j41 K name 0 [1, (bif fast then 1 else 0), ((name.size : Nat) : Int)] s w d key := by
  unfold law08.LabelBytes.j41
  have e12 : IntKind.wrap .i64 ((12 : Int) - (((ByteArray.size name) : Nat) : Int)) = ((12 - name.size : Nat) : Int) := by
    rw [wrap_small (by omega) (by omega)]; omega
  have l1 := strL_len name
  have l2 : key.length = 32 := hk.len
  rw [e12, Int.toNat_natCast]
  have a1 : ([1, (bif fast then 1 else 0), ((name.size : Nat) : Int)] : List Int).length + (strL name).length ≤ 9223372036854775807 := by
    show 3 + _ ≤ _; omega
  have a2 : (([1, (bif fast then 1 else 0), ((name.size : Nat) : Int)] : List Int).length + (strL name).length) * 1 ≤ 140737488355328 := by
    show (3 + _) * 1 ≤ _; omega
  have e3 : ([1, (bif fast then 1 else 0), ((name.size : Nat) : Int)] ++ strL name : List Int).length = 3 + name.size := by rw [List.length_append, l1]; rfl
  have b1 : ([1, (bif fast then 1 else 0), ((name.size : Nat) : Int)] ++ strL name : List Int).length + (List.replicate (12 - name.size) (0 : Int)).length ≤ 9223372036854775807 := by
    rw [e3, List.length_replicate]; omega
  have b2 : (([1, (bif fast then 1 else 0), ((name.size : Nat) : Int)] ++ strL name : List Int).length + (List.replicate (12 - name.size) (0 : Int)).length) * 1 ≤ 140737488355328 := by
    rw [e3, List.length_replicate]; omega
  refine ⟨⟨a1, a2⟩, by omega, ⟨b1, b2⟩, ?_⟩
  have hwf := ht.st.wf
  have hlen := ht.st.len
  have hge := ht.ge
  obtain ⟨nx, _, _, _, hj⟩ := ht.st.nx
  refine Disk_Read_on (at_ := 97) (by omega) ht.st.off (by rw [ht.st.w]; decide) ?_
  have ec : curS s w 97 = secR (name, (key, (fast, ()))) := by
    rw [ht.st.w, ← h48]
    exact ht.st.get (q := 48)
  rw [ec]
  have e0 : ((0 : Int) == (0 : Int)) = true := rfl
  rw [e0, br_true, br_true]
  have hb : Byt (bodR (name, (key, (fast, ())))) := bodR_byt (r := (name, (key, (fast, ())))) hs hk
  have hl : (bodR (name, (key, (fast, ())))).length = 47 := bodR_len (r := (name, (key, (fast, ())))) hs hk
  have eB : (([1, (bif fast then 1 else 0), ((name.size : Nat) : Int)] ++ strL name) ++ List.replicate (12 - name.size) 0) ++ key = bodR (name, (key, (fast, ()))) := rfl
  have e4 : (([1, (bif fast then 1 else 0), ((name.size : Nat) : Int)] ++ strL name) ++ List.replicate (12 - name.size) (0 : Int)).length = 15 := by
    rw [List.length_append, e3, List.length_replicate]; omega
  have c1 : (([1, (bif fast then 1 else 0), ((name.size : Nat) : Int)] ++ strL name) ++ List.replicate (12 - name.size) (0 : Int)).length + key.length ≤ 9223372036854775807 := by rw [e4, l2]; decide
  have c2 : ((([1, (bif fast then 1 else 0), ((name.size : Nat) : Int)] ++ strL name) ++ List.replicate (12 - name.size) (0 : Int)).length + key.length) * 1 ≤ 140737488355328 := by rw [e4, l2]; decide
  rw [eB]
  refine ⟨⟨c1, c2⟩, r01_Seal hb (by omega) ⟨?_, ?_⟩⟩
  · clear h ht hwf hj h48
    repeat' first
      | refine And.intro ?_ ?_
      | exact trivial
      | exact rfl
      | assumption
      | refine r01_Seal hb (by omega) ?_
  · have eS : secR (name, (key, (fast, ()))) = sealS (bodR (name, (key, (fast, ())))) := secR_name (r := (name, (key, (fast, ())))) hn
    rw [eS]
    have : (ByteArray.toList (bytesOf (sealS (bodR (name, (key, (fast, ())))))) == ByteArray.toList (bytesOf (sealS (bodR (name, (key, (fast, ()))))))) = true := by
      rw [beq_bytes (sealS_byt hb) (sealS_byt hb)]; exact decide_eq_true rfl
    rw [this]
    exact h
theorem labelBytes (by_ : TypeId → Nat) (name : ByteArray) (key : List Int) (fast : Bool) (hs : Wf by_ .str name) (hk : Wf by_ (.arr 32 (.int .u8)) key) (hf : Wf by_ .bool fast) (K : Bool → Prop) (h : K true) : law08.LabelBytes name key fast K := by
  have hkl : key.length = 32 := hk.1
  have hkb : Byt key := fun x hx => hk.2 x hx
  unfold law08.LabelBytes
  refine awake_law _ ?_
  rw [Bool.not_true, br_false]
  refine right_law name _ (Nat.lt_of_le_of_lt hs (by decide)) ?_
  unfold law08.LabelBytes.j4
  cases hr : rightB name with
  | false =>
    rw [Bool.not_false, br_true]
    exact awake_law _ h
  | true =>
    rw [Bool.not_true, br_false]
    obtain ⟨h12, h0, hn⟩ := rightB_size hr
    have hw : WfR (name, (key, (fast, ()))) := ⟨hkl, hkb⟩
    have zz : ∀ k, k < 12 → ((List.replicate 12 rZ).getD k rZ).1 = noStr := fun k hk => by
      rw [getD_getElem (by rw [List.length_replicate]; exact hk), List.getElem_replicate]
    refine fresh_law fun s w j d ht hd => ?_
    rw [Bool.not_true, br_false]
    refine ht.make (by decide) hw (fun hf => absurd hr (by rw [hf]; decide)) (fun _ ⟨k, hk, e⟩ => absurd (e.symm.trans (zz k hk)) hn) (fun _ _ hfull => absurd (zz 0 (by decide)) (hfull 0 (by decide))) (fun _ _ i hi hin hmin s' w' j' d' ht' _ => ?_) (fun hne => absurd hd hne)
    have hi0 : i = 0 := by
      rcases Nat.eq_zero_or_pos i with e | e
      · exact e
      · exact absurd (zz 0 (by decide)) (hmin 0 e)
    subst hi0
    have h48 : ((List.replicate 70 (List.replicate 64 (0 : Int))).set (48 + 0) (secR (name, (key, (fast, ()))))).getD 48 [] = secR (name, (key, (fast, ()))) := by
      rw [set_getD, if_pos ⟨rfl, by rw [List.length_replicate]; decide⟩]
    have e8 : IntKind.wrap .u8 (((ByteArray.size name) : Nat) : Int) = ((name.size : Nat) : Int) := wrap_u8_size (by omega)
    have key2 := labelBytes_j41 name key fast h12 hn hw K h _ _ _ s' w' j' d' ht' h48
    rw [e8]
    cases fast with
    | true =>
      rw [br_true]
      refine ⟨⟨by decide, by show (1 : Int) < ((3 : Nat) : Int); decide⟩, by show 1 < 3; decide, key2⟩
    | false =>
      rw [br_false]
      exact key2
end Go.Iw
