/- Plain laws: the way back. -/
import Derived.Test.YtdlhckmdllfamaaCQ5
namespace Go.Iw
open Go.Iv
set_option linter.unusedVariables false
set_option linter.unusedSimpArgs false

/-! Charts by what is in them. -/
theorem ris_ext : ∀ {c d : List Elem}, Ris c → Ris d → (∀ x, x ∈ c ↔ x ∈ d) → c = d
  | [], [], _, _, _ => rfl
  | [], y :: d, _, _, h => by have := (h y).2 (by simp); simp at this
  | x :: c, [], _, _, h => by have := (h x).1 (by simp); simp at this
  | x :: c, y :: d, hc, hd, h => by
    have h1 := (ris_cons.1 hc).1
    have h2 := (ris_cons.1 hd).1
    have e : x = y := by
      rcases List.mem_cons.1 ((h x).1 (by simp)) with e | hx
      · exact e
      · rcases List.mem_cons.1 ((h y).2 (by simp)) with e | hy
        · exact e.symm
        · have := h1 y hy; have := h2 x hx; omega
    subst e
    congr 1
    refine ris_ext (ris_cons.1 hc).2 (ris_cons.1 hd).2 fun z => ⟨fun hz => ?_, fun hz => ?_⟩
    · rcases List.mem_cons.1 ((h z).1 (by simp [hz])) with rfl | h'
      · have := h1 z hz; omega
      · exact h'
    · rcases List.mem_cons.1 ((h z).2 (by simp [hz])) with rfl | h'
      · have := h2 z hz; omega
      · exact h'
theorem mem_putS {c : List Elem} {e x : Elem} : x ∈ putS c e ↔ x = e ∨ (x ∈ c ∧ x.1 ≠ e.1) := by
  unfold putS lows highs
  rw [List.mem_append, List.mem_cons, List.mem_filter, List.mem_filter]
  constructor
  · rintro (⟨h, h'⟩ | h | ⟨h, h'⟩)
    · exact .inr ⟨h, by simp at h'; omega⟩
    · exact .inl h
    · exact .inr ⟨h, by simp at h'; omega⟩
  · rintro (h | ⟨h, h'⟩)
    · exact .inr (.inl h)
    · rcases Int.lt_or_gt_of_ne h' with h'' | h''
      · exact .inl ⟨h, by simpa using h''⟩
      · exact .inr (.inr ⟨h, by simpa using h''⟩)
theorem mem_dropS {c : List Elem} {n : Int} {x : Elem} : x ∈ dropS c n ↔ x ∈ c ∧ x.1 ≠ n := by simp [dropS]
theorem hasN_iff {n : Int} {c : List Elem} : hasN n c = true ↔ ∃ x : Elem, x ∈ c ∧ x.1 = n := by
  unfold hasN
  cases h : here n c with
  | nil =>
    refine ⟨fun h => (by simp at h), fun ⟨x, hx, e⟩ => ?_⟩
    have : x ∈ here n c := mem_here.2 ⟨hx, e⟩
    rw [h] at this; simp at this
  | cons y r =>
    refine ⟨fun _ => ?_, fun _ => rfl⟩
    have : y ∈ here n c := by rw [h]; simp
    exact ⟨y, (mem_here.1 this).1, (mem_here.1 this).2⟩
theorem hasN_no {n : Int} {c : List Elem} : hasN n c = false ↔ ∀ x : Elem, x ∈ c → x.1 ≠ n := by
  rw [← Bool.not_eq_true, hasN_iff]
  exact ⟨fun h x hx e => h ⟨x, hx, e⟩, fun h ⟨x, hx, e⟩ => h x hx e⟩
theorem kidB_iff {n : Int} {c : List Elem} : kidB c n = true ↔ ∃ x : Elem, x ∈ c ∧ x.2.2.1 = n := by
  unfold kidB
  rw [List.any_eq_true]
  exact ⟨fun ⟨x, hx, e⟩ => ⟨x, hx, by simpa using e⟩, fun ⟨x, hx, e⟩ => ⟨x, hx, by simpa using e⟩⟩
theorem kidB_no {n : Int} {c : List Elem} : kidB c n = false ↔ ∀ x : Elem, x ∈ c → x.2.2.1 ≠ n := by
  rw [← Bool.not_eq_true, kidB_iff]
  exact ⟨fun h x hx e => h ⟨x, hx, e⟩, fun h ⟨x, hx, e⟩ => h x hx e⟩
theorem findS_mem {n : Int} {c : List Elem} (h : hasN n c = true) : findS c n ∈ c ∧ (findS c n).1 = n := by
  unfold hasN at h
  unfold findS
  cases hh : here n c with
  | nil => rw [hh] at h; simp at h
  | cons y r =>
    have : y ∈ here n c := by rw [hh]; simp
    exact mem_here.1 this
theorem ris_uniq {c : List Elem} (hs : Ris c) {x y : Elem} (hx : x ∈ c) (hy : y ∈ c) (e : x.1 = y.1) : x = y := by
  obtain ⟨i, hi, rfl⟩ := List.mem_iff_getElem.1 hx
  obtain ⟨j, hj, rfl⟩ := List.mem_iff_getElem.1 hy
  rcases Nat.lt_trichotomy i j with h | h | h
  · have := ris_get hs i j hj h; omega
  · subst h; rfl
  · have := ris_get hs j i hi h; omega
theorem findS_eq {c : List Elem} (hs : Ris c) {x : Elem} (hx : x ∈ c) {n : Int} (e : x.1 = n) : findS c n = x := by
  have h := findS_mem (hasN_iff.2 ⟨x, hx, e⟩)
  exact ris_uniq hs h.1 hx (by omega)

/-! The way back of one. -/
def BE (e : Elem) : Prop := 0 ≤ e.2.1 ∧ e.2.1 ≤ 255
def AllB (c : List Elem) : Prop := ∀ e ∈ c, BE e

theorem noS_iff {v : Val} : noS v = true ↔ v.2.1 = noStr := by
  unfold noS
  rw [← beq_toListBytes, ba_beq]
  simp
theorem thereS_iff {c : List Elem} {n : Int} : thereS c n = true ↔ n = 0 ∨ ∃ x : Elem, x ∈ c ∧ x.1 = n := by
  unfold thereS
  rw [Bool.or_eq_true, hasN_iff]
  simp

/-- A field that is set reads so; set back it is as it was. -/
theorem field_set (e : Elem) (f : Int) (v : Val) (hf : fitsS f v = true) : valL (withL e f v) f = v := by
  obtain ⟨vn, vs, _⟩ := v
  unfold fitsS at hf
  rcases nine f with rfl | rfl | rfl | rfl | rfl | rfl | rfl | rfl | rfl | hk
  · rw [if_pos rfl, Bool.and_eq_true, Bool.and_eq_true, noS_iff] at hf
    obtain ⟨h1, h2, h3⟩ := hf
    simp at h1 h2 h3
    have e1 : IntKind.wrap .u8 vn = vn := wrap_small_u8 h2 (by omega)
    have e2 : IntKind.wrap .i64 vn = vn := wrap_small (by omega) (by omega)
    simp [valL, withL, e1, e2, h1]
  · simp [noS_iff] at hf
    simp [valL, withL, hf]
  · simp [noS_iff] at hf
    simp [valL, withL, hf]
  · simp at hf
    simp [valL, withL, hf]
  · simp [noS_iff] at hf
    simp [valL, withL, hf]
  · simp [noS_iff] at hf
    simp [valL, withL, hf]
  · simp at hf
    simp [valL, withL, hf]
  · simp at hf
    simp [valL, withL, hf]
  · simp at hf
    simp [valL, withL, hf]
  · rw [if_neg (by omega), if_neg (by omega), if_neg (by omega)] at hf
    cases hf
theorem field_back (e : Elem) (f : Int) (u v : Val) (hb : BE e) (hf : fitsS f v = true) (hu : valL e f = u) : withL (withL e f v) f u = e := by
  subst hu
  obtain ⟨e1, e2, e3, e4, e5, e6, e7, e8, e9, e10, _⟩ := e
  rcases nine f with rfl | rfl | rfl | rfl | rfl | rfl | rfl | rfl | rfl | hk
  · have h1 : 0 ≤ e2 ∧ e2 ≤ 255 := hb
    have w1 : IntKind.wrap .i64 e2 = e2 := wrap_small (by omega) (by omega)
    have w2 : IntKind.wrap .u8 e2 = e2 := wrap_small_u8 h1.1 h1.2
    simp [withL, valL, w1, w2]
  all_goals try (simp [withL, valL]; done)
  unfold fitsS at hf
  rw [if_neg (by omega), if_neg (by omega), if_neg (by omega)] at hf
  cases hf
theorem BE_with (e : Elem) (f : Int) (v : Val) (h : BE e) : BE (withL e f v) := by
  have hw : 0 ≤ IntKind.wrap .u8 v.1 ∧ IntKind.wrap .u8 v.1 ≤ 255 := by rw [IntKind.wrap_u8]; omega
  unfold withL
  repeat' split
  all_goals first | exact hw | exact h

/-- What an edit that went well says. -/
theorem one_ok {c : List Elem} {x : Edit} (h : (oneT c x).2 = 0) : Ris c ∧ rightS x = true ∧
    ((x.1 = 1 ∧ hasN x.2.1.1 c = false ∧ thereS c x.2.1.2.2.1 = true ∧ kidB c x.2.1.1 = false ∧ (oneT c x).1 = putS c x.2.1) ∨
     (x.1 = 2 ∧ hasN x.2.1.1 c = true ∧ findS c x.2.1.1 = x.2.1 ∧ thereS c x.2.1.2.2.1 = true ∧ kidB c x.2.1.1 = false ∧ (oneT c x).1 = dropS c x.2.1.1) ∨
     (x.1 = 3 ∧ hasN x.2.1.1 c = true ∧ valL (findS c x.2.1.1) x.2.2.1 = x.2.2.2.1 ∧ (x.2.2.1 = 1 → thereS c x.2.2.2.1.1 = true ∧ thereS c x.2.2.2.2.1.1 = true) ∧ (oneT c x).1 = putS c (withL (findS c x.2.1.1) x.2.2.1 x.2.2.2.2.1))) := by
  unfold oneT at h ⊢
  by_cases hs : Ris c
  · rw [if_pos hs] at h ⊢
    refine ⟨hs, ?_⟩
    cases hr : rightS x with
    | false => unfold oneS at h; rw [if_pos hr] at h; cases h
    | true =>
      refine ⟨rfl, ?_⟩
      have hop := rightS_op hr
      unfold oneS at h ⊢
      rw [if_neg (by rw [hr]; simp)] at h ⊢
      by_cases h1 : x.1 = 1
      · rw [if_pos h1] at h ⊢
        cases hh : hasN x.2.1.1 c with
        | true => rw [if_pos hh] at h; cases h
        | false =>
          rw [if_neg (by simp [hh])] at h ⊢
          by_cases hq : thereS c x.2.1.2.2.1 = false ∨ kidB c x.2.1.1 = true
          · rw [if_pos hq] at h; cases h
          · rw [if_neg hq]
            exact .inl ⟨h1, rfl, by simpa using fun e => hq (.inl e), by simpa using fun e => hq (.inr e), rfl⟩
      · rw [if_neg h1] at h ⊢
        cases hh : hasN x.2.1.1 c with
        | false => rw [if_pos hh] at h; cases h
        | true =>
          rw [if_neg (by simp [hh])] at h ⊢
          by_cases h2 : x.1 = 2
          · rw [if_pos h2] at h ⊢
            by_cases hw : findS c x.2.1.1 = x.2.1
            · rw [if_neg (by simpa using hw)] at h ⊢
              by_cases hq : thereS c x.2.1.2.2.1 = false ∨ kidB c x.2.1.1 = true
              · rw [if_pos hq] at h; cases h
              · rw [if_neg hq]
                exact .inr (.inl ⟨h2, rfl, hw, by simpa using fun e => hq (.inl e), by simpa using fun e => hq (.inr e), rfl⟩)
            · rw [if_pos hw] at h; cases h
          · rw [if_neg h2] at h ⊢
            by_cases hw : valL (findS c x.2.1.1) x.2.2.1 = x.2.2.2.1
            · rw [if_neg (by simpa using hw)] at h ⊢
              by_cases hq : x.2.2.1 = 1 ∧ (thereS c x.2.2.2.1.1 = false ∨ thereS c x.2.2.2.2.1.1 = false)
              · rw [if_pos hq] at h; cases h
              · rw [if_neg hq]
                exact .inr (.inr ⟨by omega, rfl, hw, fun hf => ⟨by simpa using fun e => hq ⟨hf, .inl e⟩, by simpa using fun e => hq ⟨hf, .inr e⟩⟩, rfl⟩)
            · rw [if_pos hw] at h; cases h
  · rw [if_neg hs] at h; cases h

theorem add_right {x : Edit} (h1 : x.1 = 1 ∨ x.1 = 2) : rightS x = true ↔ x.2.1.1 ≠ 0 ∧ x.2.2.1 = 0 ∧ x.2.2.2.1 = zV ∧ x.2.2.2.2.1 = zV := by
  unfold rightS
  rw [if_pos h1]
  simp
theorem set_right {x : Edit} (h1 : x.1 = 3) : rightS x = true ↔ x.2.1.1 ≠ 0 ∧ x.2.1 = bareE x.2.1.1 ∧ fitsS x.2.2.1 x.2.2.2.1 = true ∧ fitsS x.2.2.1 x.2.2.2.2.1 = true := by
  unfold rightS
  rw [if_neg (by omega), if_pos h1]
  simp only [Bool.and_eq_true, bne_iff_ne, decide_eq_true_eq]

theorem mkAdd {d : List Elem} {x : Edit} (hs : Ris d) (hr : rightS x = true) (h1 : x.1 = 1) (a : hasN x.2.1.1 d = false) (b : thereS d x.2.1.2.2.1 = true) (k : kidB d x.2.1.1 = false) : oneT d x = (putS d x.2.1, 0) := by
  unfold oneT oneS
  rw [if_pos hs, if_neg (by rw [hr]; simp), if_pos h1, if_neg (by rw [a]; simp), if_neg (by rw [b, k]; simp)]
theorem mkDrop {d : List Elem} {x : Edit} (hs : Ris d) (hr : rightS x = true) (h1 : x.1 = 2) (a : hasN x.2.1.1 d = true) (f : findS d x.2.1.1 = x.2.1) (b : thereS d x.2.1.2.2.1 = true) (k : kidB d x.2.1.1 = false) : oneT d x = (dropS d x.2.1.1, 0) := by
  unfold oneT oneS
  rw [if_pos hs, if_neg (by rw [hr]; simp), if_neg (by omega), if_neg (by rw [a]; simp), if_pos h1, if_neg (by simpa using f), if_neg (by rw [b, k]; simp)]
theorem mkSet {d : List Elem} {x : Edit} (hs : Ris d) (hr : rightS x = true) (h1 : x.1 = 3) (a : hasN x.2.1.1 d = true) (f : valL (findS d x.2.1.1) x.2.2.1 = x.2.2.2.1) (b : x.2.2.1 = 1 → thereS d x.2.2.2.1.1 = true ∧ thereS d x.2.2.2.2.1.1 = true) : oneT d x = (putS d (withL (findS d x.2.1.1) x.2.2.1 x.2.2.2.2.1), 0) := by
  unfold oneT oneS
  rw [if_pos hs, if_neg (by rw [hr]; simp), if_neg (by omega), if_neg (by rw [a]; simp), if_neg (by omega), if_neg (by simpa using f), if_neg]
  rintro ⟨hf, hb⟩
  obtain ⟨b1, b2⟩ := b hf
  rw [b1, b2] at hb
  simp at hb

/-- THE WAY BACK OF ONE. -/
theorem back_one {c : List Elem} {x : Edit} (hb : AllB c) (h : (oneT c x).2 = 0) : oneT (oneT c x).1 (invE x) = (c, 0) := by
  obtain ⟨hs, hr, hcase⟩ := one_ok h
  have hsd := (one_ris c x h).2
  rcases hcase with ⟨h1, hno, hth, hk, hd⟩ | ⟨h1, hno, hf, hth, hk, hd⟩ | ⟨h1, hno, hv, hth, hd⟩
  · rw [hd] at hsd ⊢
    obtain ⟨z1, z2, z3, z4⟩ := (add_right (.inl h1)).1 hr
    have hi : invE x = (2, x.2) := by simp [invE, h1]
    rw [hi]
    have hr' : rightS (2, x.2) = true := (add_right (x := (2, x.2)) (.inr rfl)).2 ⟨z1, z2, z3, z4⟩
    have hno := hasN_no.1 hno
    have hin : x.2.1 ∈ putS c x.2.1 := mem_putS.2 (.inl rfl)
    rw [mkDrop (x := (2, x.2)) hsd hr' rfl (hasN_iff.2 ⟨_, hin, rfl⟩) (findS_eq hsd hin rfl)]
    · congr 1
      refine ris_ext (drop_ris _ hsd) hs fun z => ?_
      rw [mem_dropS, mem_putS]
      constructor
      · rintro ⟨rfl | ⟨h, _⟩, h'⟩
        · exact (h' rfl).elim
        · exact h
      · intro hz; exact ⟨.inr ⟨hz, hno z hz⟩, hno z hz⟩
    · rcases thereS_iff.1 hth with h0 | ⟨y, hy, h0⟩
      · exact thereS_iff.2 (.inl h0)
      · exact thereS_iff.2 (.inr ⟨y, mem_putS.2 (.inr ⟨hy, hno y hy⟩), h0⟩)
    · refine kidB_no.2 fun y hy => ?_
      rcases mem_putS.1 hy with rfl | ⟨hy, _⟩
      · intro e
        rcases thereS_iff.1 hth with h0 | ⟨y, hy, h0⟩
        · exact z1 (by rw [← e]; exact h0)
        · exact hno y hy (by rw [h0]; exact e)
      · exact kidB_no.1 hk y hy
  · rw [hd] at hsd ⊢
    obtain ⟨z1, z2, z3, z4⟩ := (add_right (.inr h1)).1 hr
    have hi : invE x = (1, x.2) := by simp [invE, h1]
    rw [hi]
    have hr' : rightS (1, x.2) = true := (add_right (x := (1, x.2)) (.inl rfl)).2 ⟨z1, z2, z3, z4⟩
    have hmem := (findS_mem hno).1
    rw [hf] at hmem
    have hk := kidB_no.1 hk
    have hne : x.2.1.2.2.1 ≠ x.2.1.1 := hk _ hmem
    rw [mkAdd (x := (1, x.2)) hsd hr' rfl (hasN_no.2 fun y hy => (mem_dropS.1 hy).2)]
    · congr 1
      refine ris_ext (put_ris _ hsd) hs fun z => ?_
      rw [mem_putS, mem_dropS]
      constructor
      · rintro (rfl | ⟨⟨h, _⟩, _⟩)
        · exact hmem
        · exact h
      · intro hz
        by_cases e : z.1 = x.2.1.1
        · exact .inl (ris_uniq hs hz hmem e)
        · exact .inr ⟨⟨hz, e⟩, e⟩
    · rcases thereS_iff.1 hth with h0 | ⟨y, hy, h0⟩
      · exact thereS_iff.2 (.inl h0)
      · exact thereS_iff.2 (.inr ⟨y, mem_dropS.2 ⟨hy, by rw [h0]; exact hne⟩, h0⟩)
    · exact kidB_no.2 fun y hy => hk y (mem_dropS.1 hy).1
  · rw [hd] at hsd ⊢
    obtain ⟨z1, z2, z3, z4⟩ := (set_right h1).1 hr
    have hi : invE x = (x.1, x.2.1, x.2.2.1, x.2.2.2.2.1, x.2.2.2.1, ()) := by unfold invE; rw [if_neg (by omega), if_neg (by omega)]
    rw [hi]
    obtain ⟨hm, hid⟩ := findS_mem hno
    have hid' := with_id (findS c x.2.1.1) x.2.2.1 x.2.2.2.2.1
    generalize hE : findS c x.2.1.1 = E at *
    generalize hE' : withL E x.2.2.1 x.2.2.2.2.1 = E' at *
    have hin : E' ∈ putS c E' := mem_putS.2 (.inl rfl)
    have hfd : findS (putS c E') x.2.1.1 = E' := findS_eq hsd hin (by omega)
    have hr' : rightS (x.1, x.2.1, x.2.2.1, x.2.2.2.2.1, x.2.2.2.1, ()) = true := (set_right (x := (x.1, x.2.1, x.2.2.1, x.2.2.2.2.1, x.2.2.2.1, ())) h1).2 ⟨z1, z2, z4, z3⟩
    have hthr : ∀ n, thereS c n = true → thereS (putS c E') n = true := fun n hn => by
      rcases thereS_iff.1 hn with h0 | ⟨y, hy, h0⟩
      · exact thereS_iff.2 (.inl h0)
      · refine thereS_iff.2 (.inr ?_)
        by_cases e : y.1 = E'.1
        · exact ⟨E', hin, by omega⟩
        · exact ⟨y, mem_putS.2 (.inr ⟨hy, e⟩), h0⟩
    rw [mkSet (x := (x.1, x.2.1, x.2.2.1, x.2.2.2.2.1, x.2.2.2.1, ())) hsd hr' h1 (hasN_iff.2 ⟨E', hin, by show E'.1 = x.2.1.1; omega⟩) (by show valL (findS (putS c E') x.2.1.1) x.2.2.1 = x.2.2.2.2.1; rw [hfd, ← hE']; exact field_set E _ _ z4)]
    · congr 1
      show putS (putS c E') (withL (findS (putS c E') x.2.1.1) x.2.2.1 x.2.2.2.1) = c
      rw [hfd, ← hE', field_back E _ _ _ (hb E hm) z4 hv, hE']
      refine ris_ext (put_ris _ hsd) hs fun z => ?_
      rw [mem_putS, mem_putS]
      constructor
      · rintro (rfl | ⟨rfl | ⟨h, _⟩, h'⟩)
        · exact hm
        · exact (h' hid').elim
        · exact h
      · intro hz
        by_cases e : z.1 = E.1
        · exact .inl (ris_uniq hs hz hm e)
        · exact .inr ⟨.inr ⟨hz, by omega⟩, e⟩
    · intro hf
      exact ⟨hthr _ (hth hf).2, hthr _ (hth hf).1⟩
theorem one_B {c : List Elem} {x : Edit} (hb : AllB c) (hx : BE x.2.1) (h : (oneT c x).2 = 0) : AllB (oneT c x).1 := by
  obtain ⟨hs, hr, hcase⟩ := one_ok h
  rcases hcase with ⟨h1, hno, hth, hk, hd⟩ | ⟨h1, hno, hf, hth, hk, hd⟩ | ⟨h1, hno, hv, hth, hd⟩
  · rw [hd]; intro e he
    rcases mem_putS.1 he with rfl | ⟨he, _⟩
    · exact hx
    · exact hb e he
  · rw [hd]; exact fun e he => hb e (mem_dropS.1 he).1
  · rw [hd]; intro e he
    rcases mem_putS.1 he with rfl | ⟨he, _⟩
    · exact BE_with _ _ _ (hb _ (findS_mem hno).1)
    · exact hb e he

theorem applyS_snoc : ∀ (l : List Edit) (z : Edit) (c d : List Elem) (i j : Nat), (applyS c l i).2.2 = 0 → (applyS c l i).1 = d → (oneT d z).2 = 0 → applyS c (l ++ [z]) j = ((oneT d z).1, 0, 0)
  | [], z, c, d, i, j, h, hd, hz => by
    unfold applyS at hd
    subst hd
    show (if _ then _ else _) = _
    rw [if_pos hz]; rfl
  | x :: l, z, c, d, i, j, h, hd, hz => by
    unfold applyS at h hd
    by_cases he : (oneT c x).2 = 0
    · rw [if_pos he] at h hd
      show (if _ then _ else _) = _
      rw [if_pos he]
      exact applyS_snoc l z _ d (i + 1) (j + 1) h hd hz
    · rw [if_neg he] at h
      exact (he h).elim
/-- THE WAY BACK. -/
theorem back_all : ∀ (l : List Edit) (c d : List Elem) (i j : Nat), AllB c → (∀ x : Edit, x ∈ l → BE x.2.1) → (applyS c l i).2.2 = 0 → (applyS c l i).1 = d → applyS d (l.map invE).reverse j = (c, 0, 0)
  | [], c, d, i, j, _, _, h, hd => by
    unfold applyS at hd
    subst hd; rfl
  | x :: l, c, d, i, j, hb, hx, h, hd => by
    unfold applyS at h hd
    by_cases he : (oneT c x).2 = 0
    · rw [if_pos he] at h hd
      have ih := back_all l (oneT c x).1 d (i + 1) 0 (one_B hb (hx x (by simp)) he) (fun y hy => hx y (by simp [hy])) h hd
      have hone := back_one hb he
      rw [List.map_cons, List.reverse_cons]
      have := applyS_snoc (l.map invE).reverse (invE x) d (oneT c x).1 0 j (by rw [ih]) (by rw [ih]) (by rw [hone])
      rw [this, hone]
    · rw [if_neg he] at h
      exact (he h).elim
theorem applyS_ris : ∀ (l : List Edit) (c : List Elem) (i : Nat), Ris c → Ris (applyS c l i).1
  | [], c, i, h => h
  | x :: l, c, i, h => by
    unfold applyS
    by_cases he : (oneT c x).2 = 0
    · rw [if_pos he]; exact applyS_ris l _ _ (one_ris c x he).2
    · rw [if_neg he]; exact List.Pairwise.nil
end Go.Iw
