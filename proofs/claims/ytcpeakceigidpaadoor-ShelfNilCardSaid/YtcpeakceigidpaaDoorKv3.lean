/- The abstract machine's states against the model's: the relation, and how it is kept. -/
import Derived.Test.YtcpeakceigidpaaDoorKv2
set_option linter.all false
namespace Go.Iv
open Go.RowKit
theorem nbeq (a b : Nat) : Nat.beq a b = decide (a = b) := by
 cases h : Nat.beq a b with
 | true => simp [Nat.eq_of_beq_eq_true h]
 | false => simp [Nat.ne_of_beq_eq_false h]
theorem nblt (a b : Nat) : Nat.blt a b = decide (a < b) := by
 rw [Bool.eq_iff_iff, decide_eq_true_iff, Nat.blt_eq]
theorem fnd_ins (id d : Nat) (o : Ob) : ∀ hp, fnd id (ins d o hp) = if id = d then some o else fnd id hp
 | [] => by by_cases h : id = d <;> simp [ins, fnd, nbeq, h, eq_comm]
 | p :: r => by
  have ih := fnd_ins id d o r
  simp only [ins, nblt, nbeq]
  by_cases h1 : d < p.1
  · by_cases h : id = d <;> simp [h1, fnd, nbeq, h, eq_comm]
  · by_cases h2 : p.1 = d
    · by_cases h : id = d
      · subst h; simp [fnd, nbeq, h2]
      · simp [h1, h2, fnd, nbeq, h, eq_comm]
    · simp only [h1, h2, decide_false, cond_false, fnd, nbeq, ih]
      by_cases h : id = d
      · subst h; simp [h2]
      · simp [h]
theorem fnd_del (id d : Nat) : ∀ hp, fnd id (del d hp) = if id = d then none else fnd id hp
 | [] => by simp [del, fnd]
 | p :: r => by
  have ih := fnd_del id d r
  simp only [del, nbeq]
  by_cases h2 : p.1 = d
  · by_cases h : id = d
    · subst h; simp [h2, ih]
    · have h3 : ¬ d = id := fun e => h e.symm
      simp [h2, ih, h, fnd, nbeq, h3]
  · simp only [h2, decide_false, cond_false, fnd, nbeq, ih]
    by_cases h : id = d
    · subst h; simp [h2]
    · simp [h]
def blk : Value → Option Nat
 | .pointer (some a) => some a.block
 | .slice (some a) _ _ => some a.block
 | _ => none
def RepO (w : World) (ok : Nat → Prop) : Ob → Value → Prop
 | .box T t x, v => ∃ b cells, v = .pointer (some ⟨b, 0, none⟩) ∧ w.heap[b]? = some (.cells cells T (0, 0)) ∧ Rep w ok t x cells.toList
 | .row e t xs, v => ∃ inner, w.ownsRow 0 e t.size v (List.length xs) inner ∧ RepL (Rep w ok t) xs inner
def RepR (m : Nat → Value) (hp : List (Nat × Ob)) : AV0 → Value → Prop
 | .row id, v => ∀ e t xs, fnd id hp = some (.row e t xs) → v = m id
 | .ptr id off, v => ∀ T t x, fnd id hp = some (.box T t x) → ∃ b, m id = .pointer (some ⟨b, 0, none⟩) ∧ v = .pointer (some ⟨b, off, none⟩)
 | .nilp, v => v = .pointer none
 | _, _ => True
def RepP (w : World) (ok : Nat → Prop) (t : Ty) (x : t.D) (v : Value) : Prop := ∃ a cs, v = .pointer (some a) ∧ ok a.block ∧ Rep w ok t x cs ∧ ∀ (j : Nat) (u : Value), cs[j]? = some u → w.cell? (a.add j) = some u
def RepA0 (w : World) (ok : Nat → Prop) (m : Nat → Value) (hp : List (Nat × Ob)) : AV0 → Value → Prop
 | .tv t x, v => RepV w ok t x v
 | .row id, v => ∀ e t xs, fnd id hp = some (.row e t xs) → v = m id
 | .ptr id off, v => ∀ T t x, fnd id hp = some (.box T t x) → ∃ b, m id = .pointer (some ⟨b, 0, none⟩) ∧ v = .pointer (some ⟨b, off, none⟩)
 | .rptr t x, v => ∃ a cs, v = .pointer (some a) ∧ ok a.block ∧ Rep w ok t x cs ∧ ∀ (j : Nat) (u : Value), cs[j]? = some u → w.cell? (a.add j) = some u
 | .elt id i off, v => ∀ e t xs, fnd id hp = some (.row e t xs) → ∃ b n c, m id = .slice (some ⟨b, 0, none⟩) n c ∧ v = .pointer (some ⟨b, i * t.size + off, none⟩)
 | .fn f, v => v = .func (.func f) #[] #[]
 | .nilp, v => v = .pointer none
 | .sub id lo n, v => ∀ e t xs, fnd id hp = some (.row e t xs) → (n = 0 ∧ ∃ A c, v = .slice A 0 c) ∨ ∃ b N C c, m id = .slice (some ⟨b, 0, none⟩) N C ∧ v = .slice (some ⟨b, lo * t.size, none⟩) n c
 | .str t x rs, v => ∃ cs, v = .agg cs.toArray ∧ Rep w ok t x cs ∧ ∀ p ∈ rs, ∃ u, cs[p.1]? = some u ∧ RepR m hp (cAV p.2) u
 | .bel id off i f n t, v => ∀ T bt x, fnd id hp = some (.box T bt x) → ∃ b, m id = .pointer (some ⟨b, 0, none⟩) ∧ v = .pointer (some ⟨b, off + i * t.size + f, none⟩)
 | .wbx id off n e t, v => ∀ T bt x, fnd id hp = some (.box T bt x) → ∃ b, m id = .pointer (some ⟨b, 0, none⟩) ∧ v = .slice (some ⟨b, off, none⟩) n n
 | .clo f t x, v => ∃ u, v = .func (.func f) #[] #[u] ∧ RepP w ok t x u
 | .glb g, v => v = .pointer (some ⟨g, 0, none⟩)
 | .gel g i, v => v = .pointer (some ⟨g, i, none⟩)
 | .own _ _ _, _ => True
 | .un, _ => True
theorem repR_of {w : World} {ok : Nat → Prop} {m : Nat → Value} {hp : List (Nat × Ob)} {c : Nat} {v : Value} (h : RepR m hp (cAV c) v) : RepA0 w ok m hp (cAV c) v := by
 unfold cAV at h ⊢
 cases h1 : Nat.beq c 0 with
 | true => rw [h1] at h; exact h
 | false =>
  rw [h1] at h
  simp only [cond_false] at h ⊢
  cases h2 : Nat.beq (c % 2) 1 with
  | true => rw [h2] at h; exact h
  | false => rw [h2] at h; exact h
def RepA (w : World) (ok : Nat → Prop) (m : Nat → Value) (hp : List (Nat × Ob)) : AV → Value → Prop
 | .v a, v => RepA0 w ok m hp a v
 | .tup l, v => ∃ us : List Value, v = .tuple us.toArray ∧ us.length = l.length ∧ ∀ (i : Nat) (a : AV0), l[i]? = some a → ∃ u, us[i]? = some u ∧ RepA0 w ok m hp a u
class GL where
 gl : List (Nat × List Value)
def GloW [GL] (w : World) (x : Nat → Prop) : Prop := ∀ p ∈ GL.gl, p.1 < w.heap.size ∧ ¬ x p.1 ∧ ∀ (i : Nat) (u : Value), p.2[i]? = some u → w.cell? ⟨p.1, i, none⟩ = some u
variable [GL]
structure Bas where
 w : World
 x : Nat → Prop
 pin : Nat → Option Value   -- where variables stand that came in
 glo : GloW w x
def Bas.fr (B : Bas) (b : Nat) : Prop := B.w.heap.size ≤ b ∨ B.x b
structure Kept (B : Bas) (w' : World) : Prop where
 os : w'.os = B.w.os
 tape : w'.tape = B.w.tape
 output : w'.output = B.w.output
 size : B.w.heap.size ≤ w'.heap.size
 block : ∀ k, k < B.w.heap.size → ¬ B.x k → w'.heap[k]? = B.w.heap[k]?
theorem Kept.refl (B : Bas) : Kept B B.w := ⟨rfl, rfl, rfl, Nat.le_refl _, fun _ _ _ => rfl⟩
theorem Kept.old {B : Bas} {w : World} (h : Kept B w) {b : Nat} (hb : w.heap.size ≤ b) : B.fr b := .inl (Nat.le_trans h.size hb)
theorem Kept.drew {B : Bas} {w : World} (h : Kept B w) : Kept B w.drew := ⟨h.os, h.tape, h.output, h.size, h.block⟩
theorem Kept.alloc {B : Bas} {w : World} (h : Kept B w) (o : Obj) : Kept B (w.alloc o) :=
 ⟨h.os, h.tape, h.output, Nat.le_trans h.size (by simp), fun k hk hx => by rw [Go.RowKit.Below.heap_alloc _ _ _ (Nat.lt_of_lt_of_le hk h.size)]; exact h.block k hk hx⟩
theorem Kept.below {B : Bas} {w w' : World} (h : Kept B w) (hb : Below w.heap.size w w') : Kept B w' :=
 ⟨hb.os.trans h.os, hb.tape.trans h.tape, hb.output.trans h.output, Nat.le_trans h.size hb.size, fun k hk hx => (hb.block k (Nat.lt_of_lt_of_le hk h.size)).trans (h.block k hk hx)⟩
theorem Kept.glo {B : Bas} {w' : World} (h : Kept B w') {p : Nat × List Value} (hp : p ∈ GL.gl) {i : Nat} {u : Value} (hu : p.2[i]? = some u) : w'.cell? ⟨p.1, i, none⟩ = some u := by
 obtain ⟨h1, h2, h3⟩ := B.glo p hp
 rw [World.cell?_of_block (w := B.w)]
 · exact h3 i u hu
 · exact h.block _ h1 h2
theorem Kept.gloW {B : Bas} {w' : World} (h : Kept B w') {x : Nat → Prop} (hx : ∀ b, x b → B.fr b) : GloW w' x := fun p hp => by
 obtain ⟨h1, h2, _⟩ := B.glo p hp
 exact ⟨Nat.lt_of_lt_of_le h1 h.size, fun e => (hx _ e).elim (fun h => by omega) h2, fun i u hu => h.glo hp hu⟩
theorem Bas.no {B : Bas} {k b : Nat} (hk : k < B.w.heap.size) (hx : ¬ B.x k) (hb : B.fr b) : k ≠ b := by
 rintro rfl
 rcases hb with h | h
 · omega
 · exact hx h
def mkC (D : Nat) : Deferred := { target := .collected D, args := #[] }
theorem mkC_inj {D D' : Nat} (h : mkC D = mkC D') : D = D' := by
 have := congrArg Deferred.target h
 simpa [mkC] using this
def Marks (B : Bas) (w : World) (ok : Nat → Prop) (l : List Deferred) : Prop := ∃ Ds : List Nat, l = Ds.map mkC ∧ Ds.Nodup ∧ ∀ D ∈ Ds, B.fr D ∧ ¬ ok D ∧ w.heap[D]? = some (.deferred (some []))
theorem Marks.nil {B : Bas} {w : World} {ok : Nat → Prop} : Marks B w ok [] := ⟨[], rfl, List.nodup_nil, fun _ h => by cases h⟩
theorem Marks.move {B B' : Bas} {w w' : World} {ok ok' : Nat → Prop} {l : List Deferred} (h : Marks B w ok l) (k : ∀ D, mkC D ∈ l → w.heap[D]? = some (.deferred (some [])) → B.fr D → ¬ ok D → B'.fr D ∧ ¬ ok' D ∧ w'.heap[D]? = w.heap[D]?) : Marks B' w' ok' l := by
 obtain ⟨Ds, e, n, h⟩ := h
 refine ⟨Ds, e, n, fun D hD => ?_⟩
 obtain ⟨a, b, c⟩ := h D hD
 obtain ⟨a', b', c'⟩ := k D (by rw [e]; exact List.mem_map.2 ⟨D, hD, rfl⟩) c a b
 exact ⟨a', b', c'.trans c⟩
theorem RepO.cells {w : World} {ok : Nat → Prop} {o : Ob} {u : Value} (h : RepO w ok o u) {b : Nat} (hb : blk u = some b) : ∃ c T z, w.heap[b]? = some (.cells c T z) := by
 cases o with
 | box T t x =>
  obtain ⟨b', cells, e, hc, _⟩ := h
  rw [e] at hb
  cases hb
  exact ⟨_, _, _, hc⟩
 | row e t xs =>
  obtain ⟨inner, how, _⟩ := h
  rcases how.2 with ⟨e1, _⟩ | ⟨g, cap, cur, e1, _, hg, _⟩
  · rw [e1] at hb; cases hb
  · rw [e1] at hb; cases hb; exact ⟨_, _, _, hg⟩
structure Rel (w0 : Bas) (m : Nat → Value) (ok : Nat → Prop) (st : St) (a : Act) (w : World) : Prop where
 defers : Marks w0 w ok a.defers
 size : a.tmps.size = st.n
 env : ∀ i, RepA w ok m st.hp (st.get i) (a.tmps.getD i undef)
 ob : ∀ id o, fnd id st.hp = some o → RepO w ok o (m id)
 sep : ∀ id o b, fnd id st.hp = some o → blk (m id) = some b → ¬ ok b ∧ w0.fr b ∧ b < w.heap.size
 inj : ∀ id id' o o' b, fnd id st.hp = some o → fnd id' st.hp = some o' → blk (m id) = some b → blk (m id') = some b → id = id'
 okb : ∀ b, ok b → b < w.heap.size
 keep : Kept w0 w
 pins : ∀ id v, w0.pin id = some v → st.n ≤ id ∧ ∀ o, fnd id st.hp = some o → m id = v
 rfs : ∀ id off, fndR id off st.rf ≠ .un → ∀ T t x, fnd id st.hp = some (.box T t x) → ∃ b v, m id = .pointer (some ⟨b, 0, none⟩) ∧ w.cell? ⟨b, off, none⟩ = some v ∧ RepA0 w ok m st.hp (fndR id off st.rf) v
theorem RepP.mono {w w' : World} {ok ok' : Nat → Prop} (hw : ∀ b, ok b → w'.heap[b]? = w.heap[b]?) (hok : ∀ b, ok b → ok' b) {t : Ty} {x : t.D} {v : Value} : RepP w ok t x v → RepP w' ok' t x v
 | ⟨a, cs, e, hk, h, hc⟩ => ⟨a, cs, e, hok _ hk, h.move hw hok, fun j u hu => by
  rw [World.cell?_of_block (w := w)]
  · exact hc j u hu
  · have : (a.add j).block = a.block := by unfold Addr.add; split <;> rfl
    rw [this]; exact hw _ hk⟩
theorem RepA0.mono {w w' : World} {ok ok' : Nat → Prop} {m : Nat → Value} {hp : List (Nat × Ob)} (hw : ∀ b, ok b → w'.heap[b]? = w.heap[b]?) (hok : ∀ b, ok b → ok' b) :
 ∀ {a : AV0} {v : Value}, RepA0 w ok m hp a v → RepA0 w' ok' m hp a v
 | .tv t x, v, ⟨cs, h, e⟩ => ⟨cs, h.move hw hok, e⟩
 | .row _, _, h => h
 | .ptr _ _, _, h => h
 | .rptr t x, v, ⟨a, cs, e, hk, h, hc⟩ => ⟨a, cs, e, hok _ hk, h.move hw hok, fun j u hu => by
  rw [World.cell?_of_block (w := w)]
  · exact hc j u hu
  · have : (a.add j).block = a.block := by unfold Addr.add; split <;> rfl
    rw [this]; exact hw _ hk⟩
 | .elt _ _ _, _, h => h
 | .fn _, _, h => h
 | .nilp, _, h => h
 | .sub _ _ _, _, h => h
 | .str t x rs, v, ⟨cs, e, h, k⟩ => ⟨cs, e, h.move hw hok, k⟩
 | .bel _ _ _ _ _ _, _, h => h
 | .wbx _ _ _ _ _, _, h => h
 | .clo f t x, v, ⟨u, e, h⟩ => ⟨u, e, h.mono hw hok⟩
 | .glb _, _, h => h
 | .gel _ _, _, h => h
 | .own _ _ _, _, _ => trivial
 | .un, _, _ => trivial
theorem RepA.mono {w w' : World} {ok ok' : Nat → Prop} {m : Nat → Value} {hp : List (Nat × Ob)} (hw : ∀ b, ok b → w'.heap[b]? = w.heap[b]?) (hok : ∀ b, ok b → ok' b) :
 ∀ {a : AV} {v : Value}, RepA w ok m hp a v → RepA w' ok' m hp a v
 | .v _, _, h => RepA0.mono hw hok h
 | .tup l, v, ⟨us, e, hl, h⟩ => ⟨us, e, hl, fun i a ha => let ⟨u, hu, hr⟩ := h i a ha; ⟨u, hu, RepA0.mono hw hok hr⟩⟩
theorem cAV_refs (c : Nat) : (cAV c).refs = if c = 0 then [] else [cId c] := by
 unfold cAV
 cases h1 : Nat.beq c 0 with
 | true => rw [if_pos (Nat.eq_of_beq_eq_true h1)]; rfl
 | false =>
  rw [if_neg (Nat.ne_of_beq_eq_false h1)]
  simp only [cond_false]
  cases h2 : Nat.beq (c % 2) 1 <;> rfl
theorem str_refs {t : Ty} {x : t.D} {rs : List (Nat × Nat)} {p : Nat × Nat} (hp : p ∈ rs) {id : Nat} (h : id ∈ (cAV p.2).refs) : id ∈ (AV0.str t x rs).refs := by
 rw [cAV_refs] at h
 by_cases hc : p.2 = 0
 · rw [if_pos hc] at h; simp at h
 · rw [if_neg hc] at h
   simp at h
   subst h
   exact List.mem_map.2 ⟨p, List.mem_filter.2 ⟨hp, by rw [nbeq]; simp [hc]⟩, rfl⟩
def SameO (m m' : Nat → Value) (hp hp' : List (Nat × Ob)) (id : Nat) : Prop := m' id = m id ∧ ∀ o, fnd id hp' = some o → ∃ o', fnd id hp = some o' ∧ (∀ e t xs, o = .row e t xs → ∃ xs', o' = .row e t xs') ∧ (∀ T t x, o = .box T t x → ∃ x', o' = .box T t x')
theorem RepR.hp {m m' : Nat → Value} {hp hp' : List (Nat × Ob)} : ∀ {a : AV0} {v : Value}, (∀ id ∈ a.refs, SameO m m' hp hp' id) → RepR m hp a v → RepR m' hp' a v
 | .row id, v, k, h => fun e t xs hf => by
  obtain ⟨hm, k⟩ := k id (by simp [AV0.refs])
  obtain ⟨o', ho', k1, _⟩ := k _ hf
  obtain ⟨xs', rfl⟩ := k1 _ _ _ rfl
  rw [hm]; exact h _ _ _ ho'
 | .ptr id off, v, k, h => fun T t x hf => by
  obtain ⟨hm, k⟩ := k id (by simp [AV0.refs])
  obtain ⟨o', ho', _, k1⟩ := k _ hf
  obtain ⟨xs', rfl⟩ := k1 _ _ _ rfl
  rw [hm]; exact h _ _ _ ho'
 | .nilp, _, _, h => h
 | .tv _ _, _, _, _ => trivial
 | .rptr _ _, _, _, _ => trivial
 | .elt _ _ _, _, _, _ => trivial
 | .fn _, _, _, _ => trivial
 | .sub _ _ _, _, _, _ => trivial
 | .bel _ _ _ _ _ _, _, _, _ => trivial
 | .wbx _ _ _ _ _, _, _, _ => trivial
 | .clo _ _ _, _, _, _ => trivial
 | .glb _, _, _, _ => trivial
 | .gel _ _, _, _, _ => trivial
 | .str _ _ _, _, _, _ => trivial
 | .own _ _ _, _, _, _ => trivial
 | .un, _, _, _ => trivial
theorem RepA0.hp {w : World} {ok : Nat → Prop} {m m' : Nat → Value} {hp hp' : List (Nat × Ob)} : ∀ {a : AV0} {v : Value},
 (∀ id ∈ a.refs, SameO m m' hp hp' id) → RepA0 w ok m hp a v → RepA0 w ok m' hp' a v
 | .tv _ _, _, _, h => h
 | .row id, v, k, h => RepR.hp (a := .row id) k h
 | .ptr id off, v, k, h => RepR.hp (a := .ptr id off) k h
 | .rptr _ _, _, _, h => h
 | .elt id i off, v, k, h => fun e t xs hf => by
  obtain ⟨hm, k⟩ := k id (by simp [AV0.refs])
  obtain ⟨o', ho', k1, _⟩ := k _ hf
  obtain ⟨xs', rfl⟩ := k1 _ _ _ rfl
  rw [hm]; exact h _ _ _ ho'
 | .fn _, _, _, h => h
 | .nilp, _, _, h => h
 | .sub id lo n, v, k, h => fun e t xs hf => by
  obtain ⟨hm, k⟩ := k id (by simp [AV0.refs])
  obtain ⟨o', ho', k1, _⟩ := k _ hf
  obtain ⟨xs', rfl⟩ := k1 _ _ _ rfl
  rw [hm]; exact h _ _ _ ho'
 | .str t x rs, v, k, ⟨cs, e, hr, hk⟩ => ⟨cs, e, hr, fun p hp => let ⟨u, hu, hq⟩ := hk p hp; ⟨u, hu, RepR.hp (fun id hid => k id (str_refs hp hid)) hq⟩⟩
 | .bel id off i f n t, v, k, h => fun T bt x hf => by
  obtain ⟨hm, k⟩ := k id (by simp [AV0.refs])
  obtain ⟨o', ho', _, k1⟩ := k _ hf
  obtain ⟨xs', rfl⟩ := k1 _ _ _ rfl
  rw [hm]; exact h _ _ _ ho'
 | .wbx id off n e t, v, k, h => fun T bt x hf => by
  obtain ⟨hm, k⟩ := k id (by simp [AV0.refs])
  obtain ⟨o', ho', _, k1⟩ := k _ hf
  obtain ⟨xs', rfl⟩ := k1 _ _ _ rfl
  rw [hm]; exact h _ _ _ ho'
 | .clo _ _ _, _, _, h => h
 | .glb _, _, _, h => h
 | .gel _ _, _, _, h => h
 | .own _ _ _, _, _, _ => trivial
 | .un, _, _, _ => trivial
theorem fndR_map (f : AV0 → AV0) (hu : f .un = .un) (id off : Nat) : ∀ l : List ((Nat × Nat) × AV0), fndR id off (mapR f l) = f (fndR id off l)
 | [] => by simp [mapR, fndR, hu]
 | p :: r => by
  have ih := fndR_map f hu id off r
  simp only [mapR, fndR, nbeq]
  by_cases h : p.1.1 = id
  · by_cases h2 : p.1.2 = off
    · simp [h, h2]
    · simp [h, h2, ih]
  · simp [h, ih]
theorem fndR_off (d id off : Nat) : ∀ l : List ((Nat × Nat) × AV0), fndR id off (offR d l) = if id = d then .un else fndR id off l
 | [] => by simp [offR, fndR]
 | p :: r => by
  have ih := fndR_off d id off r
  simp only [offR, nbeq]
  by_cases h : p.1.1 = d
  · simp only [h, decide_true, cond_true, ih]
    by_cases e : id = d
    · simp [e]
    · have : ¬ d = id := fun h => e h.symm
      simp [e, fndR, nbeq, h, this]
  · simp only [h, decide_false, cond_false, fndR, nbeq, ih]
    by_cases e : id = d
    · subst e; simp [h]
    · simp [e]
theorem fndR_key (id d i off : Nat) (hne : id ≠ d) : ∀ l : List ((Nat × Nat) × AV0), (∀ p ∈ l, p.1.1 ≠ d) → fndR i off (keyR id d l) = if i = d then fndR id off l else if i = id then .un else fndR i off l
 | [], _ => by simp [keyR, fndR]
 | p :: r, h => by
  have ih := fndR_key id d i off hne r (fun q hq => h q (List.mem_cons_of_mem _ hq))
  have hp := h p (List.mem_cons_self ..)
  simp only [keyR, fndR, nbeq, ih]
  have hne' : ¬ d = id := fun e => hne e.symm
  by_cases h1 : p.1.1 = id
  · by_cases h2 : i = d
    · subst h2; simp [h1]
    · have h3 : ¬ d = i := fun e => h2 e.symm
      by_cases h4 : i = id
      · subst h4; simp [h1, h2, h3]
      · have h5 : ¬ id = i := fun e => h4 e.symm
        simp [h1, h2, h3, h4, h5]
  · by_cases h2 : i = d
    · subst h2; simp [h1, hp]
    · by_cases h4 : i = id
      · subst h4; simp [h1, h2]
      · simp [h1, h2, h4]
theorem offR_ne (d : Nat) : ∀ l : List ((Nat × Nat) × AV0), ∀ p ∈ offR d l, p.1.1 ≠ d
 | [], p, h => by simp [offR] at h
 | q :: r, p, h => by
  simp only [offR, nbeq] at h
  by_cases hq : q.1.1 = d
  · simp [hq] at h; exact offR_ne d r p h
  · simp [hq] at h
    rcases h with rfl | h
    · exact hq
    · exact offR_ne d r p h
section
variable {w0 : Bas} {w w' : World} {m : Nat → Value} {ok ok' : Nat → Prop} {st : St} {a : Act}
theorem fndE_ins (d i : Nat) (x : AV) : ∀ l, fndE i (insE d x l) = if d = i then x else fndE i l
 | [] => by by_cases h : d = i <;> simp [insE, fndE, nbeq, h]
 | p :: r => by
  have ih := fndE_ins d i x r
  simp only [insE, nbeq]
  by_cases h2 : p.1 = d
  · by_cases h : d = i
    · subst h; simp [fndE, nbeq, h2]
    · have h' : ¬ p.1 = i := by rw [h2]; exact h
      simp [h2, fndE, nbeq, h]
  · simp only [h2, decide_false, cond_false, fndE, nbeq, ih]
    by_cases h : d = i
    · subst h; simp [h2]
    · simp [h]
theorem insE_same {d : Nat} {x : AV} (hx : x ≠ .v .un) : ∀ {l : List (Nat × AV)}, fndE d l = x → insE d x l = l
 | [], h => by simp [fndE] at h; exact (hx h.symm).elim
 | p :: r, h => by
  simp only [fndE, nbeq] at h
  simp only [insE, nbeq]
  by_cases e : p.1 = d
  · simp [e] at h ⊢; rw [← h, ← e]
  · simp [e] at h ⊢; exact insE_same hx h
theorem fndE_set (n d i : Nat) (x : AV) (l : List (Nat × AV)) : fndE i (setE n d x l) = if d = i ∧ d < n then x else fndE i l := by
 unfold setE
 rw [nblt]
 by_cases h : d < n
 · simp only [h, decide_true, cond_true, and_true]; exact fndE_ins d i x l
 · simp [h]
theorem fndE_map (f : AV → AV) (hu : f (.v .un) = .v .un) (i : Nat) : ∀ l : List (Nat × AV), fndE i (mapE f l) = f (fndE i l)
 | [] => by simp [mapE, fndE, hu]
 | p :: r => by
  simp only [mapE, fndE, nbeq]
  by_cases h : p.1 = i
  · simp [h]
  · simp [h, fndE_map f hu i r]
theorem getD_setIfInBounds (l : Array Value) (d i : Nat) (x y : Value) : (l.setIfInBounds d x).getD i y = if d = i ∧ d < l.size then x else l.getD i y := by
 simp only [Array.getD_eq_getD_getElem?, Array.getElem?_setIfInBounds]
 by_cases h : d = i
 · subst h
   by_cases h2 : d < l.size <;> simp [h2]
 · simp [h]
theorem Rel.put (r : Rel w0 m ok st a w) {x : AV} {v : Value} (h : RepA w ok m st.hp x v) (d : Option Tmp) : Rel w0 m ok (st.put d x) (a.put d v) w := by
 cases d with
 | none => exact r
 | some d =>
  refine ⟨r.defers, by simp [St.put, Act.put, r.size], ?_, r.ob, r.sep, r.inj, r.okb, r.keep, r.pins, r.rfs⟩
  intro i
  show RepA w ok m st.hp (fndE i (setE st.n d x st.env)) ((a.tmps.setIfInBounds d v).getD i undef)
  rw [fndE_set, getD_setIfInBounds, r.size]
  split
  · exact h
  · exact r.env i
theorem Rel.blkObj (r : Rel w0 m ok st a w) (hob : ∀ id o b, fnd id st.hp = some o → blk (m id) = some b → w'.heap[b]? = w.heap[b]?) (hok : ∀ b, ok b → w'.heap[b]? = w.heap[b]?) (h1 : ∀ b, ok b → ok' b) :
 ∀ id o, fnd id st.hp = some o → RepO w' ok' o (m id) := by
 intro id o ho
 have := r.ob id o ho
 cases o with
 | box T t x =>
  obtain ⟨b, cells, e, hb, hr⟩ := this
  refine ⟨b, cells, e, ?_, hr.move hok h1⟩
  rw [hob id _ b ho (by rw [e]; rfl)]; exact hb
 | row e t xs =>
  obtain ⟨inner, ho', hr⟩ := this
  refine ⟨inner, ⟨ho'.1, ?_⟩, RepL.imp (fun x c h => h.move hok h1) hr⟩
  rcases ho'.2 with h | ⟨g, cap, cur, e1, hb, hg, rest⟩
  · exact .inl h
  · refine .inr ⟨g, cap, cur, e1, hb, ?_, rest⟩
    rw [hob id _ g ho (by rw [e1]; rfl)]; exact hg
theorem Rel.noMark (r : Rel w0 m ok st a w) {id : Nat} {o : Ob} (ho : fnd id st.hp = some o) {b : Nat} (hb : blk (m id) = some b) {D : Nat} (hD : w.heap[D]? = some (.deferred (some []))) : D ≠ b := by
 rintro rfl
 obtain ⟨c, T, z, e⟩ := (r.ob id o ho).cells hb
 rw [e] at hD; cases hD
theorem Rel.defersOr (r : Rel w0 m ok st a w) {d : Nat} {o : Ob} (ho : fnd d st.hp = some o) : Marks w0 w (fun b => ok b ∨ blk (m d) = some b) a.defers :=
 r.defers.move fun D _ c f n => ⟨f, fun h => h.elim n (fun h => r.noMark ho h c rfl), rfl⟩
theorem Rel.world (r : Rel w0 m ok st a w) (hok : ∀ b, ok b → w'.heap[b]? = w.heap[b]?) (hob : ∀ id o b, fnd id st.hp = some o → blk (m id) = some b → w'.heap[b]? = w.heap[b]?)
 (hs : w.heap.size ≤ w'.heap.size) (hk : Kept w0 w') (h1 : ∀ b, ok b → ok' b) (h2 : ∀ b, ok' b → b < w'.heap.size) (h3 : ∀ id o b, fnd id st.hp = some o → blk (m id) = some b → ¬ ok' b)
 (h4 : ∀ D, mkC D ∈ a.defers → w.heap[D]? = some (.deferred (some [])) → ¬ ok D → ¬ ok' D ∧ w'.heap[D]? = w.heap[D]?) :
 Rel w0 m ok' st a w' :=
 ⟨r.defers.move fun D hm c f n => ⟨f, h4 D hm c n⟩, r.size, fun i => (r.env i).mono hok h1, r.blkObj hob hok h1, fun id o b ho hb => ⟨h3 id o b ho hb, (r.sep id o b ho hb).2.1, Nat.lt_of_lt_of_le (r.sep id o b ho hb).2.2 hs⟩, r.inj, h2, hk, r.pins, fun id off hu T t x hf => by
  obtain ⟨b, v, e, hc, hr⟩ := r.rfs id off hu T t x hf
  refine ⟨b, v, e, ?_, hr.mono hok h1⟩
  rw [World.cell?_of_block (w := w) (hob id _ b hf (by rw [e]; rfl))]; exact hc⟩
end
end Go.Iv
