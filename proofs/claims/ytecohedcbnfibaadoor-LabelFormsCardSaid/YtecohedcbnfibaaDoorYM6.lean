/- Plain laws: a journal's disk, as what is on it. -/
import Derived.Test.YtecohedcbnfibaaDoorYM5
namespace Go.Iw
open Go.Iv
set_option linter.unusedVariables false
set_option linter.unusedSimpArgs false
set_option maxRecDepth 100000

structure Stab (N : Nat) (C : List (List Int)) (s : List (List Int)) (w : List write) (j : JournalH) (d : DiskH) : Prop where
  w : w = []
  off : dOff d = false
  nx : ∃ nx : Nat, j = ((), (nx : Int), ()) ∧ 1 ≤ nx ∧ nx ≤ N ∧ JI (nx : Int) s
  app : cont s = s.drop 49
  dat : s.drop 49 = C
structure Stop (N : Nat) (C1 C2 : List (List Int)) (s : List (List Int)) (w : List write) (j : JournalH) (d : DiskH) : Prop where
  off : dOff d = true
  len : w.length < 1000000
  rng : InR s.length w
  ge : 50 ≤ s.length
  le : s.length < 1000000
  nx : ∃ nx : Int, j = ((), nx, ())
  lost : ∀ f, JI (N : Int) (keepB f 0 w s) ∧ (cont (keepB f 0 w s) = C1 ∨ cont (keepB f 0 w s) = C2)
structure Shut (N : Nat) (C : List (List Int)) (s : List (List Int)) (w : List write) (d : DiskH) : Prop where
  w : w = []
  off : dOff d = false
  ji : JI (N : Int) s
  dat : cont s = C

theorem keep_hdA {l : List Page} (h : ∀ x ∈ l, 0 ≤ x.1) {s : List (List Int)} {q : Nat} (hq : q < 49) : (keepA (wsP l) s).getD q [] = s.getD q [] := by
  have := keep_wsP_head (f := fun _ => true) h (k := (wsP l).length) (i := 0) (s := s) hq
  rw [List.take_length] at this
  exact this
section
variable {N : Nat} {C C1 C2 : List (List Int)} {s : List (List Int)} {w : List write} {j : JournalH} {d : DiskH}
theorem Stab.len (h : Stab N C s w j d) : s.length = 49 + C.length := by
  obtain ⟨nx, _, _, _, hj⟩ := h.nx
  have := hj.ge
  rw [← h.dat, List.length_drop]; omega
theorem Stab.pos (h : Stab N C s w j d) : 1 ≤ C.length ∧ C.length < 1000000 := by
  obtain ⟨nx, _, _, _, hj⟩ := h.nx
  have h1 := hj.ge
  have h2 := hj.le
  have := h.len
  omega
theorem Stab.mono {N' : Nat} (h : Stab N C s w j d) (hn : N ≤ N') : Stab N' C s w j d := by
  obtain ⟨nx, e, h1, h2, hj⟩ := h.nx
  exact ⟨h.w, h.off, ⟨nx, e, h1, by omega, hj⟩, h.app, h.dat⟩
theorem Stab.wf (h : Stab N C s w j d) : WfS C := by
  obtain ⟨nx, e, h1, h2, hj⟩ := h.nx
  rw [← h.dat]
  exact fun p hp => hj.wf p (List.mem_of_mem_drop hp)
theorem Stab.get (h : Stab N C s w j d) {q : Nat} : s.getD (49 + q) [] = C.getD q [] := by rw [← h.dat, drop_getD]
theorem Stop.mono {N' : Nat} (h : Stop N C1 C2 s w j d) (hn : N ≤ N') : Stop N' C1 C2 s w j d :=
  ⟨h.off, h.len, h.rng, h.ge, h.le, h.nx, fun f => ⟨(h.lost f).1.mono (by omega), (h.lost f).2⟩⟩
theorem Stab.read (h : Stab N C s w j d) {at_ : Nat} (hat : at_ < C.length) {K : List Int → Int → List (List Int) → List write → JournalH → DiskH → Prop} (hk : K (C.getD at_ []) 0 s w j d) : journal.Journal_Read (at_ : Int) j d s w K := by
  have hl := h.len
  obtain ⟨nx, _, _, _, hj⟩ := h.nx
  refine Journal_Read_on (by omega) hj.le h.off (by rw [h.w]; decide) ?_
  have e : curS s w (49 + at_) = C.getD at_ [] := by rw [h.w]; exact h.get
  rw [e]; exact hk
theorem Stop.read (h : Stop N C1 C2 s w j d) {at_ : Nat} (hat : 49 + at_ < s.length) {K : List Int → Int → List (List Int) → List write → JournalH → DiskH → Prop} (hk : K [] 9 s w j d) : journal.Journal_Read (at_ : Int) j d s w K :=
  Journal_Read_off hat h.le h.off hk
theorem Stab.wr (h : Stab N C s w j d) (hN : N < 4294967295) {l : List Page} (hl : l.length ≤ 24) (hne : l ≠ []) (hv : ∀ x ∈ l, 0 ≤ x.1 ∧ x.1 < (C.length : Int) ∧ x.2.1.length ≤ 64 ∧ Byt x.2.1)
    {K : Int → (List (List Int)) → (List write) → JournalH → DiskH → Prop}
    (h0 : ∀ s' w' j' d', Stab (N + 1) (apl l C) s' w' j' d' → (dLeft d = -1 → dLeft d' = -1) → K 0 s' w' j' d')
    (h9 : dLeft d ≠ -1 → ∀ s' w' j' d', Stop (N + 1) C (apl l C) s' w' j' d' → s'.length = s.length → K 9 s' w' j' d') : journal.Journal_Write l j d s w K := by
  obtain ⟨nx, rfl, h1, h2, hj⟩ := h.nx
  obtain rfl := h.w
  have hlen := h.len
  have hpg : Pgs s.length l := fun x hx => by
    obtain ⟨a, b, c, _⟩ := hv x hx
    exact ⟨a, by omega, c⟩
  have hb : ∀ x ∈ l, Byt x.2.1 := fun x hx => (hv x hx).2.2.2
  have hw1 : IntKind.wrap .i64 ((nx : Int) + 1) = ((nx + 1 : Nat) : Int) := wrap_succ nx (by omega)
  have hin1 : InR s.length (layA (nx : Int) l) := layA_in _ _ hl _ (by have := hj.ge; omega)
  have hin2 : InR s.length (wsP l) := wsP_in fun x hx => ⟨(hpg x hx).1, (hpg x hx).2.1⟩
  refine Journal_Write_s hl hne hj.ge hj.le hpg h.off (fun d' hd' => ?_) (fun hl' k d' hk hd' => ?_) (fun hl' k d' hk hd' => ?_)
  · rw [hw1]
    obtain ⟨a, b, c⟩ := write_done hj h.app h1 (by omega) hl hpg hb
    refine h0 _ _ _ _ ⟨rfl, hd'.1, ⟨nx + 1, rfl, by omega, by omega, ?_⟩, by rw [c, b], by rw [b, h.dat]⟩ hd'.2
    rw [Int.natCast_add]; exact a
  · refine h9 hl' _ _ _ _ ⟨hd', by rw [List.length_take, layA_len]; omega, fun x hx => hin1 x (List.mem_of_mem_take hx), hj.ge, hj.le, ⟨_, rfl⟩, fun f => ?_⟩ rfl
    obtain ⟨a, b⟩ := write_lay hj h.app h1 (by omega) hl hpg hb f k
    rw [h.dat] at b
    exact ⟨a.mono (by omega), b⟩
  · have hk2 : (keepA (layA (nx : Int) l) s).length = s.length := keepB_len ..
    rw [hw1]
    refine h9 hl' _ _ _ _ ⟨hd', by rw [List.length_take, wsP_len]; omega, fun x hx => by rw [hk2]; exact hin2 x (List.mem_of_mem_take hx), by rw [hk2]; exact hj.ge, by rw [hk2]; exact hj.le, ⟨_, rfl⟩, fun f => ?_⟩ hk2
    obtain ⟨a, b⟩ := write_apply hj h.app h1 (by omega) hl hpg hb f k 0
    rw [h.dat] at b
    exact ⟨a.mono (by omega), .inr b⟩
theorem Stop.wr (h : Stop N C1 C2 s w j d) {l : List Page} (hl : l.length ≤ 24) (hne : l ≠ []) (hv : Pgs s.length l)
    {K : Int → (List (List Int)) → (List write) → JournalH → DiskH → Prop} (h9 : K 9 s w j d) : journal.Journal_Write l j d s w K := by
  obtain ⟨nx, rfl⟩ := h.nx
  exact Journal_Write_off hl hne h.ge h.le h.len hv h.off h9
theorem Shut.open (h : Shut N C s w d) (h1 : 1 ≤ N) {K0 : Int → (List (List Int)) → (List write) → DiskH → JournalH → Prop} {K1 : Int → (List (List Int)) → (List write) → DiskH → Prop}
    (h0 : ∀ s' w' j' d', Stab N C s' w' j' d' → (dLeft d = -1 → dLeft d' = -1) → s'.length = s.length → K0 0 s' w' d' j')
    (h9 : dLeft d ≠ -1 → ∀ s' w' d', Stop N C C s' w' ((), (0 : Int), ()) d' → s'.length = s.length → K1 9 s' w' d') : journal.Open d s w K0 K1 := by
  obtain rfl := h.w
  have hj := h.ji
  refine Open_s hj.wf hj.ge hj.le h.off hj.pgs (fun nx d' ha hb hd' => ?_) (fun hl' k d' hk hd' => ?_)
  · obtain ⟨a, b, c⟩ := hj.opened
    have h00 := numS_range (wf_getD hj.wf (i := 0) (by have := hj.ge; omega)).2 (by have := (wf_getD hj.wf (i := 0) (by have := hj.ge; omega)).1; omega)
    have h01 := ha 0 (by decide)
    have hle := hb (N : Int) (by omega) hj.num
    obtain ⟨n, rfl⟩ := Int.eq_ofNat_of_zero_le (show 0 ≤ nx by omega)
    refine h0 _ _ _ _ ⟨rfl, hd'.1, ⟨n, rfl, by omega, by omega, ⟨a.wf, a.ge, a.le, fun q hq => ?_, a.pgs⟩⟩, by rw [b, c], by rw [c, h.dat]⟩ hd'.2 (keepB_len ..)
    rw [keep_hdA (fun x hx => (hj.pgs x hx).1) hq]
    exact ha q hq
  · have hb := fun f => hj.again f k 0
    refine h9 hl' _ _ _ ⟨hd', by rw [List.length_take, wsP_len]; have := readJ_len hj.wf hj.ge; omega, fun x hx => wsP_in (fun x hx => ⟨(hj.pgs x hx).1, (hj.pgs x hx).2.1⟩) x (List.mem_of_mem_take hx), hj.ge, hj.le, ⟨_, rfl⟩, fun f => ⟨(hb f).1, .inl (by rw [(hb f).2, h.dat])⟩⟩ rfl
end
end Go.Iw
