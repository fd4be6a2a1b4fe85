/- The abstract machine's states against the model's: the relation, and how it is kept. -/
import Derived.Test.YtdniiaomhojlhaaIv2
namespace Go.Iv
open Go.RowKit
set_option linter.unusedVariables false
set_option linter.unusedSimpArgs false

theorem nbeq (a b : Nat) : Nat.beq a b = decide (a = b) := by
  cases h : Nat.beq a b with
  | true => simp [Nat.eq_of_beq_eq_true h]
  | false => simp [Nat.ne_of_beq_eq_false h]
theorem nblt (a b : Nat) : Nat.blt a b = decide (a < b) := by
  rw [Bool.eq_iff_iff, decide_eq_true_iff, Nat.blt_eq]

theorem fnd_ins (id d : Nat) (o : Ob) : ∀ hp, fnd id (ins d o hp) = if id = d then some o else fnd id hp
  | [] => by by_cases h : id = d <;> simp [ins, fnd, nbeq, h, eq_comm]
  | p :: r => by
    have ih := fnd_ins id d o r
    simp only [ins, nblt, nbeq]
    by_cases h1 : d < p.1
    · by_cases h : id = d <;> simp [h1, fnd, nbeq, h, eq_comm]
    · by_cases h2 : p.1 = d
      · by_cases h : id = d
        · subst h; simp [fnd, nbeq, h2]
        · simp [h1, h2, fnd, nbeq, h, eq_comm]
      · simp only [h1, h2, decide_false, cond_false, fnd, nbeq, ih]
        by_cases h : id = d
        · subst h; simp [h2]
        · simp [h]

theorem fnd_del (id d : Nat) : ∀ hp, fnd id (del d hp) = if id = d then none else fnd id hp
  | [] => by simp [del, fnd]
  | p :: r => by
    have ih := fnd_del id d r
    simp only [del, nbeq]
    by_cases h2 : p.1 = d
    · by_cases h : id = d
      · subst h; simp [h2, ih]
      · have h3 : ¬ d = id := fun e => h e.symm
        simp [h2, ih, h, fnd, nbeq, h3]
    · simp only [h2, decide_false, cond_false, fnd, nbeq, ih]
      by_cases h : id = d
      · subst h; simp [h2]
      · simp [h]

/-- The block that a reference leads to. -/
def blk : Value → Option Nat
  | .pointer (some a) => some a.block
  | .slice (some a) _ _ => some a.block
  | _ => none

def RepO (w : World) (ok : Nat → Prop) : Ob → Value → Prop
  | .box T t x, v => ∃ b cells, v = .pointer (some ⟨b, 0, none⟩) ∧ w.heap[b]? = some (.cells cells T (0, 0)) ∧ Rep w ok t x cells.toList
  | .row e t xs, v => ∃ inner, w.ownsRow 0 e t.size v (List.length xs) inner ∧ RepL (Rep w ok t) xs inner

def RepA0 (w : World) (ok : Nat → Prop) (m : Nat → Value) (hp : List (Nat × Ob)) : AV0 → Value → Prop
  | .tv t x, v => RepV w ok t x v
  | .row id, v => ∀ e t xs, fnd id hp = some (.row e t xs) → v = m id
  | .ptr id off, v => ∀ T t x, fnd id hp = some (.box T t x) → ∃ b, m id = .pointer (some ⟨b, 0, none⟩) ∧ v = .pointer (some ⟨b, off, none⟩)
  | .rptr t x, v => ∃ a cs, v = .pointer (some a) ∧ ok a.block ∧ Rep w ok t x cs ∧ ∀ (j : Nat) (u : Value), cs[j]? = some u → w.cell? (a.add j) = some u
  | .elt id i off, v => ∀ e t xs, fnd id hp = some (.row e t xs) → ∃ b n c, m id = .slice (some ⟨b, 0, none⟩) n c ∧ v = .pointer (some ⟨b, i * t.size + off, none⟩)
  | .fn f, v => v = .func (.func f) #[] #[]
  | .own _ _ _, _ => True
  | .un, _ => True

def RepA (w : World) (ok : Nat → Prop) (m : Nat → Value) (hp : List (Nat × Ob)) : AV → Value → Prop
  | .v a, v => RepA0 w ok m hp a v
  | .tup l, v => ∃ us : List Value, v = .tuple us.toArray ∧ us.length = l.length ∧ ∀ (i : Nat) (a : AV0), l[i]? = some a → ∃ u, us[i]? = some u ∧ RepA0 w ok m hp a u

structure Rel (w0 : World) (m : Nat → Value) (ok : Nat → Prop) (st : St) (a : Act) (w : World) : Prop where
  defers : a.defers = []
  size : a.tmps.size = st.n
  env : ∀ i, RepA w ok m st.hp (st.get i) (a.tmps.getD i undef)
  ob : ∀ id o, fnd id st.hp = some o → RepO w ok o (m id)
  sep : ∀ id o b, fnd id st.hp = some o → blk (m id) = some b → ¬ ok b ∧ w0.heap.size ≤ b ∧ b < w.heap.size
  inj : ∀ id id' o o' b, fnd id st.hp = some o → fnd id' st.hp = some o' → blk (m id) = some b → blk (m id') = some b → id = id'
  okb : ∀ b, ok b → b < w.heap.size
  keep : Below w0.heap.size w0 w

theorem RepA0.mono {w w' : World} {ok ok' : Nat → Prop} {m : Nat → Value} {hp : List (Nat × Ob)} (hw : ∀ b, ok b → w'.heap[b]? = w.heap[b]?) (hok : ∀ b, ok b → ok' b) :
    ∀ {a : AV0} {v : Value}, RepA0 w ok m hp a v → RepA0 w' ok' m hp a v
  | .tv t x, v, ⟨cs, h, e⟩ => ⟨cs, h.move hw hok, e⟩
  | .row _, _, h => h
  | .ptr _ _, _, h => h
  | .rptr t x, v, ⟨a, cs, e, hk, h, hc⟩ => ⟨a, cs, e, hok _ hk, h.move hw hok, fun j u hu => by
      rw [World.cell?_of_block (w := w)]
      · exact hc j u hu
      · have : (a.add j).block = a.block := by unfold Addr.add; split <;> rfl
        rw [this]; exact hw _ hk⟩
  | .elt _ _ _, _, h => h
  | .fn _, _, h => h
  | .own _ _ _, _, _ => trivial
  | .un, _, _ => trivial

theorem RepA.mono {w w' : World} {ok ok' : Nat → Prop} {m : Nat → Value} {hp : List (Nat × Ob)} (hw : ∀ b, ok b → w'.heap[b]? = w.heap[b]?) (hok : ∀ b, ok b → ok' b) :
    ∀ {a : AV} {v : Value}, RepA w ok m hp a v → RepA w' ok' m hp a v
  | .v _, _, h => RepA0.mono hw hok h
  | .tup l, v, ⟨us, e, hl, h⟩ => ⟨us, e, hl, fun i a ha => let ⟨u, hu, hr⟩ := h i a ha; ⟨u, hu, RepA0.mono hw hok hr⟩⟩

/-- Other objects, some of them the same. -/
theorem RepA0.hp {w : World} {ok : Nat → Prop} {m m' : Nat → Value} {hp hp' : List (Nat × Ob)} : ∀ {a : AV0} {v : Value},
    (∀ id, (a = .row id ∨ (∃ o, a = .ptr id o) ∨ ∃ i o, a = .elt id i o) → (m' id = m id ∧ ∀ o, fnd id hp' = some o → ∃ o', fnd id hp = some o' ∧ (∀ e t xs, o = .row e t xs → ∃ xs', o' = .row e t xs') ∧ (∀ T t x, o = .box T t x → ∃ x', o' = .box T t x')) ) → RepA0 w ok m hp a v → RepA0 w ok m' hp' a v
  | .tv _ _, _, _, h => h
  | .row id, v, k, h => fun e t xs hf => by
    obtain ⟨hm, k⟩ := k id (.inl rfl)
    obtain ⟨o', ho', k1, _⟩ := k _ hf
    obtain ⟨xs', rfl⟩ := k1 _ _ _ rfl
    rw [hm]; exact h _ _ _ ho'
  | .ptr id off, v, k, h => fun T t x hf => by
    obtain ⟨hm, k⟩ := k id (.inr (.inl ⟨_, rfl⟩))
    obtain ⟨o', ho', _, k1⟩ := k _ hf
    obtain ⟨xs', rfl⟩ := k1 _ _ _ rfl
    rw [hm]; exact h _ _ _ ho'
  | .rptr _ _, _, _, h => h
  | .elt id i off, v, k, h => fun e t xs hf => by
    obtain ⟨hm, k⟩ := k id (.inr (.inr ⟨_, _, rfl⟩))
    obtain ⟨o', ho', k1, _⟩ := k _ hf
    obtain ⟨xs', rfl⟩ := k1 _ _ _ rfl
    rw [hm]; exact h _ _ _ ho'
  | .fn _, _, _, h => h
  | .own _ _ _, _, _, _ => trivial
  | .un, _, _, _ => trivial

section
variable {w0 w w' : World} {m : Nat → Value} {ok ok' : Nat → Prop} {st : St} {a : Act}

theorem fndE_ins (d i : Nat) (x : AV) : ∀ l, fndE i (insE d x l) = if d = i then x else fndE i l
  | [] => by by_cases h : d = i <;> simp [insE, fndE, nbeq, h]
  | p :: r => by
    have ih := fndE_ins d i x r
    simp only [insE, nbeq]
    by_cases h2 : p.1 = d
    · by_cases h : d = i
      · subst h; simp [fndE, nbeq, h2]
      · have h' : ¬ p.1 = i := by rw [h2]; exact h
        simp [h2, fndE, nbeq, h]
    · simp only [h2, decide_false, cond_false, fndE, nbeq, ih]
      by_cases h : d = i
      · subst h; simp [h2]
      · simp [h]
theorem insE_same {d : Nat} {x : AV} (hx : x ≠ .v .un) : ∀ {l : List (Nat × AV)}, fndE d l = x → insE d x l = l
  | [], h => by simp [fndE] at h; exact (hx h.symm).elim
  | p :: r, h => by
    simp only [fndE, nbeq] at h
    simp only [insE, nbeq]
    by_cases e : p.1 = d
    · simp [e] at h ⊢; rw [← h, ← e]
    · simp [e] at h ⊢; exact insE_same hx h
theorem fndE_set (n d i : Nat) (x : AV) (l : List (Nat × AV)) : fndE i (setE n d x l) = if d = i ∧ d < n then x else fndE i l := by
  unfold setE
  rw [nblt]
  by_cases h : d < n
  · simp only [h, decide_true, cond_true, and_true]; exact fndE_ins d i x l
  · simp [h]
theorem fndE_map (f : AV → AV) (hu : f (.v .un) = .v .un) (i : Nat) : ∀ l : List (Nat × AV), fndE i (mapE f l) = f (fndE i l)
  | [] => by simp [mapE, fndE, hu]
  | p :: r => by
    simp only [mapE, fndE, nbeq]
    by_cases h : p.1 = i
    · simp [h]
    · simp [h, fndE_map f hu i r]

theorem getD_setIfInBounds (l : Array Value) (d i : Nat) (x y : Value) : (l.setIfInBounds d x).getD i y = if d = i ∧ d < l.size then x else l.getD i y := by
  simp only [Array.getD_eq_getD_getElem?, Array.getElem?_setIfInBounds]
  by_cases h : d = i
  · subst h
    by_cases h2 : d < l.size <;> simp [h2]
  · simp [h]

theorem Rel.put (r : Rel w0 m ok st a w) {x : AV} {v : Value} (h : RepA w ok m st.hp x v) (d : Option Tmp) : Rel w0 m ok (st.put d x) (a.put d v) w := by
  cases d with
  | none => exact r
  | some d =>
    refine ⟨r.defers, by simp [St.put, Act.put, r.size], ?_, r.ob, r.sep, r.inj, r.okb, r.keep⟩
    intro i
    show RepA w ok m st.hp (fndE i (setE st.n d x st.env)) ((a.tmps.setIfInBounds d v).getD i undef)
    rw [fndE_set, getD_setIfInBounds, r.size]
    split
    · exact h
    · exact r.env i

theorem Rel.blkObj (r : Rel w0 m ok st a w) (hob : ∀ id o b, fnd id st.hp = some o → blk (m id) = some b → w'.heap[b]? = w.heap[b]?) (hok : ∀ b, ok b → w'.heap[b]? = w.heap[b]?) (h1 : ∀ b, ok b → ok' b) :
    ∀ id o, fnd id st.hp = some o → RepO w' ok' o (m id) := by
  intro id o ho
  have := r.ob id o ho
  cases o with
  | box T t x =>
    obtain ⟨b, cells, e, hb, hr⟩ := this
    refine ⟨b, cells, e, ?_, hr.move hok h1⟩
    rw [hob id _ b ho (by rw [e]; rfl)]; exact hb
  | row e t xs =>
    obtain ⟨inner, ho', hr⟩ := this
    refine ⟨inner, ⟨ho'.1, ?_⟩, RepL.imp (fun x c h => h.move hok h1) hr⟩
    rcases ho'.2 with h | ⟨g, cap, cur, e1, hb, hg, rest⟩
    · exact .inl h
    · refine .inr ⟨g, cap, cur, e1, hb, ?_, rest⟩
      rw [hob id _ g ho (by rw [e1]; rfl)]; exact hg

/-- Another world, in which all that is known is as it was; more may be read. -/
theorem Rel.world (r : Rel w0 m ok st a w) (hok : ∀ b, ok b → w'.heap[b]? = w.heap[b]?) (hob : ∀ id o b, fnd id st.hp = some o → blk (m id) = some b → w'.heap[b]? = w.heap[b]?)
    (hs : w.heap.size ≤ w'.heap.size) (hk : Below w0.heap.size w0 w') (h1 : ∀ b, ok b → ok' b) (h2 : ∀ b, ok' b → b < w'.heap.size) (h3 : ∀ id o b, fnd id st.hp = some o → blk (m id) = some b → ¬ ok' b) :
    Rel w0 m ok' st a w' :=
  ⟨r.defers, r.size, fun i => (r.env i).mono hok h1, r.blkObj hob hok h1, fun id o b ho hb => ⟨h3 id o b ho hb, (r.sep id o b ho hb).2.1, Nat.lt_of_lt_of_le (r.sep id o b ho hb).2.2 hs⟩, r.inj, h2, hk⟩
end

end Go.Iv
