/- Plain laws: refs that are made, moved, dropped, on a disk that stops: as a list: round by round. -/
import Derived.Test.YtecohedcbnfibaaDoorYM12
namespace Go.Iw
open Go.Iv
set_option linter.unusedVariables false
set_option linter.unusedSimpArgs false
set_option maxRecDepth 100000
set_option maxHeartbeats 4000000

structure ActOk (a : Act) : Prop where
  k : 0 ≤ a.1 ∧ a.1 ≤ 255
  n : 0 ≤ a.2.1 ∧ a.2.1 ≤ 255
  key : a.2.2.2.1.length = 32 ∧ Byt a.2.2.2.1
  name : a.2.2.1.size < 9223372036854775807
theorem name_s {a : Act} (ha : ActOk a) {K : ByteArray → Prop} (h : ∀ s : ByteArray, s.size < 9223372036854775807 → K s) : law08.name a K := by
  unfold law08.name
  obtain ⟨n, hn, hn2⟩ := byt_nat ha.n
  refine ⟨by decide, ?_⟩
  have e : Int.tmod a.2.1 (14 : Int) = ((n % 14 : Nat) : Int) := by rw [hn]; rfl
  have hlt := Nat.mod_lt n (show 14 > 0 by decide)
  cases decide ((Int.tmod a.2.1 (4 : Int)) > (0 : Int)) with
  | true =>
    rw [br_true, e]
    refine ⟨by decide, ⟨by omega, by show ((n % 14 : Nat) : Int) < ((14 : Nat) : Int); omega⟩, by rw [Int.toNat_natCast]; show n % 14 < 14; exact hlt, h _ ?_⟩
    rw [Int.toNat_natCast]
    generalize n % 14 = q at hlt
    have : ∀ q, q < 14 → (ixN noStr [(ByteArray.mk #[109, 97, 105, 110]), (ByteArray.mk #[98]), (ByteArray.mk #[99, 46, 49]), (ByteArray.mk #[108, 111, 110, 103, 46, 110, 97, 109, 101, 46, 105, 116]), (ByteArray.mk #[120, 57]), (ByteArray.mk #[97]), (ByteArray.mk #[100]), (ByteArray.mk #[101]), (ByteArray.mk #[102]), (ByteArray.mk #[103]), (ByteArray.mk #[104]), (ByteArray.mk #[105]), (ByteArray.mk #[106]), (ByteArray.mk #[107])] q).size < 100 := by decide +kernel
    exact Nat.lt_trans (this q hlt) (by decide)
  | false =>
    rw [br_false]
    exact h _ ha.name
section
variable {K0 : Bool → Prop} {K1 : (List Act) → (List Ref) → Int → DiskH → TableH → JournalH → (List (List Int)) → (List write) → Prop}
variable {N : Nat} {C : List (List Int)} {M l : List Ref} {s : List (List Int)} {w : List write} {j : JournalH} {d : DiskH}
theorem drop0 {α : Type} (l : List α) (n : Nat) : List.drop (Int.toNat (0 : Int)) (List.take (Int.toNat ((n : Nat) : Int)) l) = l.take n := by rw [Int.toNat_natCast]; rfl
theorem dropN {α : Type} (l : List α) (n : Nat) : List.drop (Int.toNat ((n : Nat) : Int)) (List.take (Int.toNat (((List.length l) : Nat) : Int)) l) = l.drop n := by rw [Int.toNat_natCast, Int.toNat_natCast, List.take_length]
theorem round_all {acts : List Act} {i : Nat} (hi : i < 1000000) (hN : 1 ≤ N) (hN2 : N < 1000000) (nm : ByteArray) (hnm : nm.size < 9223372036854775807) (a : Act) (ha : ActOk a) (hmask : a.2.2.2.2.2.1.length ≤ 20) (ht : Tab N C l s w j d) (hm : Mod M l) (at_ : Int)
    (hat : (at_ = -1 ∧ ∀ q (hq : q < M.length), M[q].1 ≠ nm) ∨ ∃ q, ∃ hq : q < M.length, at_ = (q : Int) ∧ M[q].1 = nm)
    (h : ∀ N' C' l' M' s' w' j' d', N' ≤ N + 1 → 1 ≤ N' → Tab N' C' l' s' w' j' d' → Mod M' l' → K1 acts M' ((i + 1 : Nat) : Int) d' (mkT l') j' s' w') (t78 : Int) (t125 : Bool) :
    law08.LabelPlays.j153 K0 K1 acts M (i : Int) nm at_ 0 0 t78 t125 d (mkT l) j a M s w := by
  have hMl := hm.len ht.tab
  have hwf := hm.wf ht.tab
  have hK : ∀ {N' C' l' M' s' w' j' d'}, N' ≤ N + 1 → 1 ≤ N' → Tab N' C' l' s' w' j' d' → Mod M' l' → K1 acts M' ((i + 1 : Nat) : Int) d' (mkT l') j' s' w' := fun h1 h2 h3 h4 => h _ _ _ _ _ _ _ _ h1 h2 h3 h4
  -- refused: nothing changed
  have refused : ∀ {e : Int} (X : List Ref), e ≠ 9 → e ≠ 0 → law08.LabelPlays.j663 K0 K1 acts M (i : Int) nm e e s w (mkT l) j d a X := fun X h9 h0 =>
    round_ok (M' := X) hi nm a h9 ht (by rw [if_neg h0]; exact hm) (by rw [if_neg h0]; exact hK (by omega) hN ht hm)
  -- it went well
  have went : ∀ {N' C' l' M' s' w' j' d'}, N' ≤ N + 1 → 1 ≤ N' → Tab N' C' l' s' w' j' d' → Mod M' l' → law08.LabelPlays.j663 K0 K1 acts M (i : Int) nm 0 0 s' w' (mkT l') j' d' a M' := fun h1 h2 h3 h4 =>
    round_ok hi nm a (by decide) h3 (by rw [if_pos rfl]; exact h4) (by rw [if_pos rfl]; exact hK h1 h2 h3 h4)
  -- the disk stopped
  have stopped : ∀ {k : Nat} {r : Ref} {M' : List Ref} {s' w' j' d'} {t : TableH}, k < 12 → TabL (l.set k r) → Mod M' (l.set k r) → Stop (N + 1) C (C.set (48 + k) (secR r)) s' w' j' d' → law08.LabelPlays.j663 K0 K1 acts M (i : Int) nm 0 9 s' w' t j' d' a M' := fun hk hl' hm' hst =>
    round_stop hi (by omega) nm a (by omega) ht.ge (by rw [List.length_set]; exact ht.ge) hst ht.tab ht.tied hm hl' (ht.tied.set ht.ge ht.tab.len hk _) hm' (fun s' w' j' d' hT => hK (Nat.le_refl _) (by omega) hT hm) (fun s' w' j' d' hT => hK (Nat.le_refl _) (by omega) hT hm') _
  have noneL : (∀ q (hq : q < M.length), M[q].1 ≠ nm) → nm ≠ noStr → ∀ k, k < 12 → (l.getD k rZ).1 ≠ nm := fun hno hn k hk e => by
    have hin : l.getD k rZ ∈ M := hm.mem.2 ⟨ht.tab.get_mem hk, by rw [e]; exact hn⟩
    obtain ⟨q, hq, e2⟩ := List.getElem_of_mem hin
    exact hno q hq (by rw [e2]; exact e)
  have oneL : ∀ {q : Nat} (hq : q < M.length), M[q].1 = nm → nm ≠ noStr ∧ ∃ k, k < 12 ∧ l.getD k rZ = M[q] := fun hq e => by
    have hmem := hm.mem.1 (List.getElem_mem hq)
    exact ⟨by rw [← e]; exact hmem.2, ht.tab.mem_get hmem.1⟩
  unfold law08.LabelPlays.j153
  cases t125 with
  | true =>
    rw [br_true]
    rcases hat with ⟨rfl, hno⟩ | ⟨q, hq, rfl, hqn⟩
    · refine ht.move (by omega) ha.key (fun _ => ?_) (fun hn k hk e => absurd e (noneL hno hn k hk)) (fun hn k hk e => absurd e (noneL hno hn k hk)) (fun _ hn k hk e => absurd e (noneL hno hn k hk))
      rw [lt_int (by decide), br_true]
      exact refused M (by decide) (by decide)
    · obtain ⟨hn, k0, hk0, ek0⟩ := oneL hq hqn
      have gq : ix Ref.z M (q : Int) = M[q] := ix_nat _ _ _ hq
      have gq2 : ixN Ref.z M (Int.toNat (q : Int)) = M[q] := ixN_toNat _ _ _ hq
      have same : ∀ k, k < 12 → (l.getD k rZ).1 = nm → l.getD k rZ = M[q] := fun k hk e => hm.at ht.tab hq hk (by rw [e, hqn])
      have next : ∀ (r0 : Int) (s' : List (List Int)) (w' : List write) (t' : TableH) (j' : JournalH) (d' : DiskH), M[q].2.2.1 = false → law08.LabelPlays.j663 K0 K1 acts M (i : Int) nm 0 r0 s' w' t' j' d' a (M.set q (nm, (a.2.2.2.1, (false, ())))) → br (decide ((q : Int) < 0)) (law08.LabelPlays.j663 K0 K1 acts M (i : Int) nm (2 : Int) r0 s' w' t' j' d' a M) ((((0 : Int) ≤ (q : Int)) ∧ ((q : Int) < (((List.length M) : Nat) : Int))) ∧ (br (ix Ref.z M (q : Int)).2.2.1 (law08.LabelPlays.j663 K0 K1 acts M (i : Int) nm (13 : Int) r0 s' w' t' j' d' a M) ((((0 : Int) ≤ (q : Int)) ∧ ((q : Int) < (((List.length M) : Nat) : Int))) ∧ (((Int.toNat (q : Int)) < (List.length M)) ∧ (law08.LabelPlays.j663 K0 K1 acts M (i : Int) nm 0 r0 s' w' t' j' d' a (List.set M (Int.toNat (q : Int)) ((ixN Ref.z M (Int.toNat (q : Int))).1, (a.2.2.2.1, (ixN Ref.z M (Int.toNat (q : Int))).2.2)))))))) := fun r0 s' w' t' j' d' hf hh => by
        rw [nlt_int (by omega), br_false, gq, gq2, hf, br_false, Int.toNat_natCast]
        refine ⟨⟨by omega, by omega⟩, ⟨by omega, by omega⟩, hq, ?_⟩
        have e1 : ((M[q].1, (a.2.2.2.1, M[q].2.2)) : Ref) = (nm, (a.2.2.2.1, (false, ()))) := by
          rw [hqn]
          have : M[q].2.2 = (false, ()) := by rw [← hf]
          rw [this]
        rw [e1]
        exact hh
      refine ht.move (by omega) ha.key (fun hno => ?_) (fun _ k hk e hf => ?_) (fun _ k hk e hf s' w' j' d' hT _ => ?_) (fun _ _ k hk e hf s' w' j' d' hst _ => ?_)
      · rcases hno with hno | hno
        · exact absurd hno hn
        · exact absurd (by rw [ek0]; exact hqn) (hno k0 hk0)
      · rw [same k hk e] at hf
        rw [nlt_int (by omega), br_false, gq, hf, br_true]
        exact ⟨⟨by omega, by omega⟩, refused M (by decide) (by decide)⟩
      · rw [same k hk e] at hf
        refine next _ _ _ _ _ _ hf ?_
        exact went (by omega) (by omega) hT (hm.swap ht.tab hq hk (by rw [e, hqn]) hqn.symm)
      · rw [same k hk e] at hf
        refine next _ _ _ _ _ _ hf ?_
        have hg : rightB nm = true := by
          have := (ht.tab.good k hk).2
          rw [e] at this
          rcases this with e2 | e2
          · exact absurd (by rw [← e, e2]) hn
          · exact e2
        have hl' : TabL (l.set k (nm, (a.2.2.2.1, (false, ())))) := ht.tab.set hk ⟨⟨ha.key.1, ha.key.2⟩, .inr hg⟩ (fun _ k' hk' hne e2 => ht.tab.dist k' k hk' hk hne (by rw [e2]; exact hn) (by rw [e2, e]))
        exact stopped hk hl' (hm.swap ht.tab hq hk (by rw [e, hqn]) hqn.symm) hst
  | false =>
    rw [br_false]
    cases h5 : t78 == (5 : Int) with
    | true =>
      rw [br_true]
      rcases hat with ⟨rfl, hno⟩ | ⟨q, hq, rfl, hqn⟩
      · refine ht.drop (by omega) (fun _ => ?_) (fun hn k hk e => absurd e (noneL hno hn k hk)) (fun _ hn k hk e => absurd e (noneL hno hn k hk))
        rw [lt_int (by decide), br_true]
        exact refused M (by decide) (by decide)
      · obtain ⟨hn, k0, hk0, ek0⟩ := oneL hq hqn
        have e1 : IntKind.wrap .i64 ((q : Int) + (1 : Int)) = ((q + 1 : Nat) : Int) := wrap_succ q (by omega)
        have l1 : (M.take q).length ≤ 12 := by rw [List.length_take]; omega
        have l2 : (M.drop (q + 1)).length ≤ 12 := by rw [List.length_drop]; omega
        refine ht.drop (by omega) (fun hno => ?_) (fun _ k hk e s' w' j' d' hT _ => ?_) (fun _ _ k hk e s' w' j' d' hst _ => ?_)
        · rcases hno with hno | hno
          · exact absurd hno hn
          · exact absurd (by rw [ek0]; exact hqn) (hno k0 hk0)
        · rw [nlt_int (by omega), br_false, e1, drop0, dropN]
          refine ⟨⟨by omega, by omega⟩, ⟨by decide, by omega⟩, ⟨by omega, by omega⟩, ⟨by omega, by omega⟩, ⟨by omega, by omega⟩, ⟨by omega, by omega⟩, ?_⟩
          exact went (by omega) (by omega) hT (hm.gone ht.tab hq hk (by rw [e, hqn]))
        · rw [nlt_int (by omega), br_false, e1, drop0, dropN]
          refine ⟨⟨by omega, by omega⟩, ⟨by decide, by omega⟩, ⟨by omega, by omega⟩, ⟨by omega, by omega⟩, ⟨by omega, by omega⟩, ⟨by omega, by omega⟩, ?_⟩
          exact stopped hk (ht.tab.set hk goodZ (fun hne => absurd rfl hne)) (hm.gone ht.tab hq hk (by rw [e, hqn])) hst
    | false =>
      rw [br_false]
      cases h6 : t78 == (6 : Int) with
      | true =>
        rw [br_true]
        refine ht.st.arm fun d1 hs1 hd1 => ?_
        refine hs1.shut.reopen hN (hd1 (by decide)) ht.ge ht.tab ht.tied fun s' w' j' d' hT _ => ?_
        rw [ite_eq0, br_false]
        refine hT.open_tab ?_
        rw [ite_eq0, br_false]
        exact went (by omega) hN hT hm
      | false =>
        rw [br_false]
        cases h7 : t78 == (7 : Int) with
        | true =>
          rw [br_true]
          refine ⟨by decide, ht.st.arm fun d1 hs1 hd1 => ?_⟩
          exact went (by omega) hN ⟨hs1, ht.tab, ht.tied, ht.ge⟩ hm
        | false =>
          rw [br_false]
          have hr : WfR (nm, (a.2.2.2.1, (a.2.2.2.2.1, ()))) := ⟨ha.key.1, ha.key.2⟩
          have wants : ∀ (r0 : Int) (s' : List (List Int)) (w' : List write) (t' : TableH) (j' : JournalH) (d' : DiskH),
              (rightB nm = false → law08.LabelPlays.j663 K0 K1 acts M (i : Int) nm 1 r0 s' w' t' j' d' a M) →
              (rightB nm = true → at_ ≠ -1 → law08.LabelPlays.j663 K0 K1 acts M (i : Int) nm 3 r0 s' w' t' j' d' a M) →
              (rightB nm = true → at_ = -1 → 12 ≤ M.length → law08.LabelPlays.j663 K0 K1 acts M (i : Int) nm 4 r0 s' w' t' j' d' a M) →
              (rightB nm = true → at_ = -1 → M.length < 12 → ∀ k, k ≤ M.length → (∀ x ∈ M.take k, cmpN x.1 nm < 0) → (∀ x ∈ M.drop k, cmpN nm x.1 < 0) → law08.LabelPlays.j663 K0 K1 acts M (i : Int) nm 0 r0 s' w' t' j' d' a ((M.take k ++ [(nm, (a.2.2.2.1, (a.2.2.2.2.1, ())))]) ++ M.drop k)) →
              (law08.right nm (fun r_319 => (br (!r_319) (law08.LabelPlays.j663 K0 K1 acts M (i : Int) nm (1 : Int) r0 s' w' t' j' d' a M) (br (decide (at_ ≥ (0 : Int))) (law08.LabelPlays.j663 K0 K1 acts M (i : Int) nm (3 : Int) r0 s' w' t' j' d' a M) (br (decide ((((List.length M) : Nat) : Int) ≥ (12 : Int))) (law08.LabelPlays.j663 K0 K1 acts M (i : Int) nm (4 : Int) r0 s' w' t' j' d' a M) (∃ n_428, law08.LabelPlays.l27 (fun acts0_405 l6_406 i7_407 s9_408 want13_409 e14_410 k20_411 ot31_412 ot32_413 ot4_414 ook5_415 od3_416 oa8_417 or19_418 => ((((0 : Int) ≤ k20_411) ∧ (k20_411 ≤ (((List.length l6_406) : Nat) : Int))) ∧ ((((0 : Int) ≤ (0 : Int)) ∧ ((0 : Int) ≤ k20_411)) ∧ ((((List.length (List.drop (Int.toNat (0 : Int)) (List.take (Int.toNat k20_411) l6_406))) ≤ 9223372036854775807) ∧ (((List.length (List.drop (Int.toNat (0 : Int)) (List.take (Int.toNat k20_411) l6_406))) * 56) ≤ 140737488355328)) ∧ ((((0 : Int) ≤ (((List.length l6_406) : Nat) : Int)) ∧ ((((List.length l6_406) : Nat) : Int) ≤ (((List.length l6_406) : Nat) : Int))) ∧ ((((0 : Int) ≤ k20_411) ∧ (k20_411 ≤ (((List.length l6_406) : Nat) : Int))) ∧ (((((List.length (List.drop (Int.toNat (0 : Int)) (List.take (Int.toNat k20_411) l6_406))) + (List.length [or19_418])) ≤ 9223372036854775807) ∧ ((((List.length (List.drop (Int.toNat (0 : Int)) (List.take (Int.toNat k20_411) l6_406))) + (List.length [or19_418])) * 56) ≤ 140737488355328)) ∧ (((((List.length ((List.drop (Int.toNat (0 : Int)) (List.take (Int.toNat k20_411) l6_406)) ++ [or19_418])) + (List.length (List.drop (Int.toNat k20_411) (List.take (Int.toNat (((List.length l6_406) : Nat) : Int)) l6_406)))) ≤ 9223372036854775807) ∧ ((((List.length ((List.drop (Int.toNat (0 : Int)) (List.take (Int.toNat k20_411) l6_406)) ++ [or19_418])) + (List.length (List.drop (Int.toNat k20_411) (List.take (Int.toNat (((List.length l6_406) : Nat) : Int)) l6_406)))) * 56) ≤ 140737488355328)) ∧ (law08.LabelPlays.j663 K0 K1 acts0_405 l6_406 i7_407 s9_408 want13_409 e14_410 ot31_412 ot32_413 ot4_414 ook5_415 od3_416 oa8_417 (((List.drop (Int.toNat (0 : Int)) (List.take (Int.toNat k20_411) l6_406)) ++ [or19_418]) ++ (List.drop (Int.toNat k20_411) (List.take (Int.toNat (((List.length l6_406) : Nat) : Int)) l6_406)))))))))))) n_428 acts M (i : Int) nm 0 r0 (0 : Int) s' w' t' j' d' a (nm, (a.2.2.2.1, (a.2.2.2.2.1, ()))))))))) := by
            intro r0 s' w' t' j' d' c1 c3 c4 c0
            refine right_law nm _ hnm ?_
            cases hrt : rightB nm with
            | false => rw [Bool.not_false, br_true]; exact c1 hrt
            | true =>
              rw [Bool.not_true, br_false]
              rcases hat with ⟨e, hno⟩ | ⟨q, hq, e, hqn⟩
              · rw [e, nge_int (by decide), br_false]
                by_cases hfull : 12 ≤ M.length
                · rw [ge_int (by omega), br_true]; exact c4 hrt e hfull
                · rw [nge_int (by omega), br_false]
                  refine ⟨M.length + 1, find_l27 acts M (i : Int) nm 0 r0 _ d' t' j' a s' w' hMl hm.srt _ (fun k hk ha1 ha2 => ?_) M.length 0 (by omega) (fun x hx => by cases hx)⟩
                  have lt2 : ∀ x ∈ M.drop k, cmpN nm x.1 < 0 := fun x hx => by
                    have h1 := ha2 x hx
                    have h2 := cmpB_swap nm.data.toList x.1.data.toList
                    have h3 : 0 ≤ cmpB x.1.data.toList nm.data.toList := h1
                    have hne : cmpB x.1.data.toList nm.data.toList ≠ 0 := fun e2 => by
                      obtain ⟨q, hq, e3⟩ := List.getElem_of_mem (List.mem_of_mem_drop hx)
                      exact hno q hq (by rw [e3]; exact cmpN_eq e2)
                    show cmpB _ _ < 0
                    omega
                  rw [drop0, dropN]
                  have l1 : (M.take k).length ≤ 12 := by rw [List.length_take]; omega
                  have l2 : (M.drop k).length ≤ 12 := by rw [List.length_drop]; omega
                  have l3 : (M.take k ++ [((nm, (a.2.2.2.1, (a.2.2.2.2.1, ()))) : Ref)]).length ≤ 13 := by rw [List.length_append, List.length_singleton]; omega
                  have l4 : ([((nm, (a.2.2.2.1, (a.2.2.2.2.1, ()))) : Ref)] : List Ref).length = 1 := rfl
                  exact ⟨⟨by omega, by omega⟩, ⟨by decide, by omega⟩, ⟨by omega, by omega⟩, ⟨by omega, by omega⟩, ⟨by omega, by omega⟩, ⟨by omega, by omega⟩, ⟨by omega, by omega⟩, c0 hrt e (by omega) k hk ha1 lt2⟩
              · rw [e, ge_int (by omega), br_true]
                exact c3 hrt (by omega)
          have there : ∀ k, k < 12 → rightB nm = true → (l.getD k rZ).1 = nm → at_ ≠ -1 := fun k hk hrt e => by
            rcases hat with ⟨_, hno⟩ | ⟨q, hq, e2, _⟩
            · exact absurd e (noneL hno (rightB_size hrt).2.2 k hk)
            · omega
          have notthere : (∀ k, k < 12 → (l.getD k rZ).1 ≠ nm) → at_ = -1 := fun hno => by
            rcases hat with ⟨e, _⟩ | ⟨q, hq, e2, hqn⟩
            · exact e
            · obtain ⟨_, k0, hk0, ek0⟩ := oneL hq hqn
              exact absurd (by rw [ek0]; exact hqn) (hno k0 hk0)
          have full : (∀ k, k < 12 → (l.getD k rZ).1 ≠ noStr) → 12 ≤ M.length := fun hf => by
            rw [hm.perm.length_eq]
            have : liveR l = l := by
              unfold liveR
              rw [List.filter_eq_self]
              intro r hr
              obtain ⟨k, hk, e⟩ := ht.tab.mem_get hr
              have := hf k hk
              rw [e] at this
              simpa using this
            rw [this, ht.tab.len]; exact Nat.le_refl _
          have notfull : ∀ k, k < 12 → (l.getD k rZ).1 = noStr → M.length < 12 := fun k hk e => by
            rw [hm.perm.length_eq]
            have hlen := ht.tab.len
            obtain ⟨A, B, e1, e2, e3⟩ := split_at (l := l) (k := k) (by omega)
            have hx : (l[k]'(by omega)).1 = noStr := by rw [getD_getElem (by omega)] at e; exact e
            have hAB : A.length + 1 + B.length = 12 := by
              have := congrArg List.length e1
              rw [List.length_append, List.length_cons] at this
              omega
            have h1 : liveR l = liveR A ++ liveR B := by
              conv => lhs; rw [e1]
              rw [live_split, if_pos hx, List.nil_append]
            rw [h1, List.length_append]
            have ha1 : (liveR A).length ≤ A.length := List.length_filter_le _ _
            have hb1 : (liveR B).length ≤ B.length := List.length_filter_le _ _
            omega
          refine ht.make (by omega) hr (fun hrt => ?_) (fun hrt ⟨k, hk, e⟩ => ?_) (fun hrt hno hfu => ?_) (fun hrt hno k hk hz _ s' w' j' d' hT _ => ?_) (fun _ hrt hno k hk hz s' w' j' d' hst _ => ?_)
          · refine wants 1 s w (mkT l) j d (fun _ => refused M (by decide) (by decide)) (fun h => ?_) (fun h => ?_) (fun h => ?_) <;> exact absurd (hrt.symm.trans h) (by decide)
          · refine wants 3 s w (mkT l) j d (fun h => absurd (h.symm.trans hrt) (by decide)) (fun _ _ => refused M (by decide) (by decide)) (fun _ h => absurd h (there k hk hrt e)) (fun _ h => absurd h (there k hk hrt e))
          · refine wants 4 s w (mkT l) j d (fun h => absurd (h.symm.trans hrt) (by decide)) (fun _ h => absurd (notthere hno) h) (fun _ _ _ => refused M (by decide) (by decide)) (fun _ _ h => absurd (full hfu) (by omega))
          · refine wants 0 s' w' _ j' d' (fun h => absurd (h.symm.trans hrt) (by decide)) (fun _ h => absurd (notthere hno) h) (fun _ _ h => absurd (notfull k hk hz) (by omega)) (fun _ _ _ q hq h1 h2 => ?_)
            exact went (by omega) (by omega) hT (hm.make ht.tab hk hz (r := (nm, (a.2.2.2.1, (a.2.2.2.2.1, ())))) (rightB_size hrt).2.2 hq h1 h2)
          · refine wants 9 s' w' _ j' d' (fun h => absurd (h.symm.trans hrt) (by decide)) (fun _ h => absurd (notthere hno) h) (fun _ _ h => absurd (notfull k hk hz) (by omega)) (fun _ _ _ q hq h1 h2 => ?_)
            have hl' : TabL (l.set k (nm, (a.2.2.2.1, (a.2.2.2.2.1, ())))) := ht.tab.set hk ⟨hr, .inr hrt⟩ (fun _ k' hk' _ => hno k' hk')
            exact stopped hk hl' (hm.make ht.tab hk hz (r := (nm, (a.2.2.2.1, (a.2.2.2.2.1, ())))) (rightB_size hrt).2.2 hq h1 h2) hst
end
theorem plays_loop (acts : List Act) (hacts : ∀ a ∈ acts, ActOk a) (hl : acts.length ≤ 40) (K0 : Bool → Prop) (hK : K0 true) : ∀ (m i N : Nat) (C : List (List Int)) (M l : List Ref) (s : List (List Int)) (w : List write) (j : JournalH) (d : DiskH),
    i + m = acts.length → 1 ≤ N → N ≤ i + 1 → Tab N C l s w j d → Mod M l → law08.LabelPlays.l8 K0 (K0 true) (m + 1) acts M (i : Int) d (mkT l) j s w := by
  intro m
  induction m with
  | zero =>
    intro i N C M l s w j d hi hN1 hN ht hm
    rw [law08.LabelPlays.l8]
    rw [lt_false (by omega), br_false]
    exact hK
  | succ m ih =>
    intro i N C M l s w j d hi hN1 hN ht hm
    have hlt : i < acts.length := by omega
    have ha := hacts acts[i] (List.getElem_mem hlt)
    have hMl := hm.len ht.tab
    rw [law08.LabelPlays.l8]
    rw [lt_true hlt, br_true, ix_nat _ _ _ hlt]
    refine ⟨⟨by omega, by omega⟩, ?_⟩
    by_cases hmask : (20 : Int) < (((List.length acts[i].2.2.2.2.2.1) : Nat) : Int)
    · rw [gt_int hmask, br_true]; exact hK
    · rw [ngt_int (by omega), br_false]
      refine name_s ha fun nm hnm => ?_
      have next : ∀ N' C' l' M' s' w' j' d', N' ≤ N + 1 → 1 ≤ N' → Tab N' C' l' s' w' j' d' → Mod M' l' → law08.LabelPlays.l8 K0 (K0 true) (m + 1) acts M' ((i + 1 : Nat) : Int) d' (mkT l') j' s' w' := fun N' C' l' M' s' w' j' d' h1 h2 h3 h4 => ih (i + 1) N' C' M' l' s' w' j' d' (by omega) h2 (by omega) h3 h4
      have act : ∀ at_ : Int, ((at_ = -1 ∧ ∀ q (hq : q < M.length), M[q].1 ≠ nm) ∨ ∃ q, ∃ hq : q < M.length, at_ = (q : Int) ∧ M[q].1 = nm) → ((((List.length M) ≤ 9223372036854775807) ∧ (((List.length M) * 56) ≤ 140737488355328)) ∧ (((8 : Int) ≠ (0 : Int)) ∧ (br ((Int.tmod acts[i].1 (8 : Int)) == (3 : Int)) (law08.LabelPlays.j153 K0 (fun acts0_431 l6_432 i7_433 od3_434 ot4_435 ook5_436 ot31_437 ot32_438 => (law08.LabelPlays.l8 K0 (K0 true) (m + 1) acts0_431 l6_432 i7_433 od3_434 ot4_435 ook5_436 ot31_437 ot32_438)) acts M (i : Int) nm at_ (0 : Int) (0 : Int) (Int.tmod acts[i].1 (8 : Int)) true d (mkT l) j acts[i] M s w) (law08.LabelPlays.j153 K0 (fun acts0_440 l6_441 i7_442 od3_443 ot4_444 ook5_445 ot31_446 ot32_447 => (law08.LabelPlays.l8 K0 (K0 true) (m + 1) acts0_440 l6_441 i7_442 od3_443 ot4_444 ook5_445 ot31_446 ot32_447)) acts M (i : Int) nm at_ (0 : Int) (0 : Int) (Int.tmod acts[i].1 (8 : Int)) ((Int.tmod acts[i].1 (8 : Int)) == (4 : Int)) d (mkT l) j acts[i] M s w)))) := fun at_ hat => by
        refine ⟨⟨by omega, by omega⟩, by decide, ?_⟩
        have go := fun t78 t125 => round_all (K0 := K0) (K1 := fun acts l6 i7 od3 ot4 ook5 ot31 ot32 => law08.LabelPlays.l8 K0 (K0 true) (m + 1) acts l6 i7 od3 ot4 ook5 ot31 ot32) (acts := acts) (i := i) (by omega) hN1 (by omega) nm hnm acts[i] ha (by omega) ht hm at_ hat next t78 t125
        cases (Int.tmod acts[i].1 (8 : Int)) == (3 : Int) with
        | true => rw [br_true]; exact go _ _
        | false => rw [br_false]; exact go _ _
      exact ⟨M.length + 1, find_l16 acts M (i : Int) nm d (mkT l) j acts[i] s w hMl _ (fun hno => act (-1) (.inl ⟨rfl, hno⟩)) (fun q hq e => act (q : Int) (.inr ⟨q, hq, rfl, e⟩)) M.length 0 (-1) (by omega) (.inl ⟨rfl, fun q hq h0 => absurd h0 (by omega)⟩)⟩
theorem labelPlays (by_ : TypeId → Nat) (acts : List Act) (hs : Wf by_ (.sl 58 tAct) acts) (K : Bool → Prop) (h : K true) : law08.LabelPlays acts K := by
  have hall : ∀ a ∈ acts, ActOk a := fun a ha => by
    obtain ⟨h1, h2, h3, h4, h5, h6, h7⟩ := hs.1 a ha
    exact ⟨h1, h2, ⟨h4.1, fun x hx => h4.2 x hx⟩, Nat.lt_of_le_of_lt h3 (by decide)⟩
  unfold law08.LabelPlays
  refine awake_law _ ?_
  rw [Bool.not_true, br_false]
  unfold law08.LabelPlays.j4
  by_cases hl : (40 : Int) < (((List.length acts) : Nat) : Int)
  · rw [gt_int hl, br_true]
    exact awake_law _ h
  · rw [ngt_int (by omega), br_false]
    refine fresh_law fun s w j d ht hd => ?_
    rw [Bool.not_true, br_false]
    refine ⟨acts.length + 1, plays_loop acts hall (by omega) K h acts.length 0 1 _ [] _ s w j d (by omega) (Nat.le_refl _) (Nat.le_refl _) ht ⟨List.Pairwise.nil, ?_⟩⟩
    have : liveR (List.replicate 12 rZ) = [] := by
      unfold liveR
      rw [List.filter_eq_nil_iff]
      intro r hr
      rw [(List.mem_replicate.1 hr).2]
      simp
    rw [this]
end Go.Iw
