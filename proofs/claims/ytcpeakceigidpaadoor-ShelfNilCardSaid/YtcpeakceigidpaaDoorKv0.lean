/- A typed reading of the model's values: what a value, a cell, a row of memory says in plain data. -/
import Derived.Below
import Derived.Tactics
import Derived.Laws.AppendOwn
import Derived.Laws.Rows
import Derived.Laws.Tables
import Derived.Deep.MidRow
set_option linter.all false
namespace Go.Iv
inductive HK where
 | ptr
 | sl
def HK.beq : HK → HK → Bool
 | .ptr, .ptr => true
 | .sl, .sl => true
 | _, _ => false
def HK.z : HK → Value
 | .ptr => .pointer none
 | .sl => .slice none 0 0
inductive Ty where
 | int (k : IntKind)
 | bool
 | str
 | unit
 | pair (a b : Ty)
 | arr (n : Nat) (t : Ty)
 | sl (e : TypeId) (t : Ty)
 | hole (k : HK)
 | pt (t : Ty)   -- the address of memory that is only read
 | op (t : Ty)   -- likewise, or nothing
def kNo : IntKind → Nat
 | .i8 => 0 | .i16 => 1 | .i32 => 2 | .i64 => 3 | .u8 => 4 | .u16 => 5 | .u32 => 6 | .u64 => 7
theorem kNo_inj {a b : IntKind} (h : kNo a = kNo b) : a = b := by cases a <;> cases b <;> first | rfl | cases h
def Ty.beq : Ty → Ty → Bool
 | .int k, .int k' => Nat.beq (kNo k) (kNo k')
 | .bool, .bool => true
 | .str, .str => true
 | .unit, .unit => true
 | .pair a b, .pair a' b' => match Ty.beq a a' with | true => Ty.beq b b' | false => false
 | .arr n t, .arr n' t' => match Nat.beq n n' with | true => Ty.beq t t' | false => false
 | .sl e t, .sl e' t' => match Nat.beq e e' with | true => Ty.beq t t' | false => false
 | .hole k, .hole k' => HK.beq k k'
 | .pt t, .pt t' => Ty.beq t t'
 | .op t, .op t' => Ty.beq t t'
 | _, _ => false
theorem Ty.beq_eq : ∀ {a b : Ty}, Ty.beq a b = true → a = b := by
 intro a
 induction a with
 | int k => intro b h; cases b <;> simp [Ty.beq] at h; exact congrArg _ (kNo_inj h)
 | bool => intro b h; cases b <;> simp [Ty.beq] at h; rfl
 | str => intro b h; cases b <;> simp [Ty.beq] at h; rfl
 | unit => intro b h; cases b <;> simp [Ty.beq] at h; rfl
 | pair a c iha ihc =>
  intro b h
  cases b <;> simp only [Ty.beq] at h <;> try contradiction
  rename_i a' c'
  split at h
  · rename_i h1; rw [iha h1, ihc h]
  · contradiction
 | arr n t ih =>
  intro b h
  cases b <;> simp only [Ty.beq] at h <;> try contradiction
  split at h
  · rename_i h1; rw [Nat.eq_of_beq_eq_true h1, ih h]
  · contradiction
 | sl e t ih =>
  intro b h
  cases b <;> simp only [Ty.beq] at h <;> try contradiction
  split at h
  · rename_i h1; rw [show e = _ from Nat.eq_of_beq_eq_true h1, ih h]
  · contradiction
 | hole k => intro b h; cases b <;> simp [Ty.beq] at h; rename_i k'; cases k <;> cases k' <;> first | rfl | cases h
 | pt t ih => intro b h; cases b <;> simp only [Ty.beq] at h <;> first | contradiction | rw [ih h]
 | op t ih => intro b h; cases b <;> simp only [Ty.beq] at h <;> first | contradiction | rw [ih h]
theorem Ty.beq_self : ∀ a : Ty, Ty.beq a a = true
 | .int k => by simp [Ty.beq]
 | .bool => rfl
 | .str => rfl
 | .unit => rfl
 | .pair a b => by simp only [Ty.beq, Ty.beq_self a, Ty.beq_self b]
 | .arr n t => by simp only [Ty.beq, Ty.beq_self t, show Nat.beq n n = true from by simp]
 | .sl e t => by simp only [Ty.beq, Ty.beq_self t, show Nat.beq e e = true from by simp]
 | .hole k => by cases k <;> rfl
 | .pt t => by simp only [Ty.beq, Ty.beq_self t]
 | .op t => by simp only [Ty.beq, Ty.beq_self t]
instance : DecidableEq Ty := fun a b => match h : Ty.beq a b with
 | true => .isTrue (Ty.beq_eq h)
 | false => .isFalse fun e => by subst e; rw [Ty.beq_self] at h; cases h
@[reducible] def Ty.D : Ty → Type
 | .int _ => Int
 | .bool => Bool
 | .str => ByteArray
 | .unit => Unit
 | .pair a b => a.D × b.D
 | .arr _ t => List t.D
 | .sl _ t => List t.D
 | .hole _ => Unit
 | .pt t => t.D
 | .op t => Option t.D
def Ty.size : Ty → Nat
 | .unit => 0
 | .pair a b => a.size + b.size
 | .arr n t => n * t.size
 | _ => 1
def Ty.isAgg : Ty → Bool
 | .unit | .pair _ _ | .arr _ _ => true
 | _ => false
def Ty.flat : Ty → Bool
 | .sl _ _ => false
 | .pt _ => false
 | .op _ => false
 | .pair a b => a.flat && b.flat
 | .arr _ t => t.flat
 | _ => true
def Ty.zero : (t : Ty) → t.D
 | .int _ => (0 : Int)
 | .bool => false
 | .str => (⟨#[]⟩ : ByteArray)
 | .unit => ()
 | .pair a b => (a.zero, b.zero)
 | .arr n t => List.replicate n t.zero
 | .sl _ _ => []
 | .hole _ => ()
 | .pt t => t.zero
 | .op _ => none
def Ty.zcells : Ty → List Value
 | .int k => [.int k 0]
 | .bool => [.bool false]
 | .str => [.string ⟨#[]⟩]
 | .unit => []
 | .pair a b => a.zcells ++ b.zcells
 | .arr n t => (List.replicate n t.zcells).flatten
 | .sl _ _ => [.slice none 0 0]
 | .hole k => [k.z]
 | .pt _ => [.pointer none]
 | .op _ => [.pointer none]
def Ty.np : Ty → Bool
 | .pair a b => a.np && b.np
 | .arr _ t => t.np
 | .sl _ t => t.np
 | .pt _ => false
 | _ => true
def RepL {α : Type} (R : α → List Value → Prop) : List α → List Value → Prop
 | [], cs => cs = []
 | x :: xs, cs => ∃ c1 c2, cs = c1 ++ c2 ∧ R x c1 ∧ RepL R xs c2
def Rep (w : World) (ok : Nat → Prop) : (t : Ty) → t.D → List Value → Prop
 | .int k, n, cs => cs = [.int k n]
 | .bool, b, cs => cs = [.bool b]
 | .str, s, cs => cs = [.string s]
 | .unit, _, cs => cs = []
 | .pair a b, x, cs => ∃ c1 c2, cs = c1 ++ c2 ∧ Rep w ok a x.1 c1 ∧ Rep w ok b x.2 c2
 | .arr n t, xs, cs => List.length xs = n ∧ RepL (Rep w ok t) xs cs
 | .sl _ t, xs, cs => ∃ A c inner, cs = [.slice A (List.length xs) c] ∧ List.length xs ≤ c ∧
  (xs = [] ∨ ∃ a : Addr, A = some a ∧ ok a.block ∧ ∀ (j : Nat) (u : Value), inner[j]? = some u → w.cell? (a.add j) = some u) ∧ RepL (Rep w ok t) xs inner
 | .hole _, _, cs => ∃ v : Value, cs = [v] ∧ v.oneCell' = true
 | .pt t, x, cs => ∃ (a : Addr) (inner : List Value), cs = [.pointer (some a)] ∧ ok a.block ∧ Rep w ok t x inner ∧ ∀ (j : Nat) (u : Value), inner[j]? = some u → w.cell? (a.add j) = some u
 | .op t, x, cs => match x with
  | none => cs = [.pointer none]
  | some x => ∃ (a : Addr) (inner : List Value), cs = [.pointer (some a)] ∧ ok a.block ∧ Rep w ok t x inner ∧ ∀ (j : Nat) (u : Value), inner[j]? = some u → w.cell? (a.add j) = some u
theorem RepL.imp {α : Type} {R R' : α → List Value → Prop} (h : ∀ x c, R x c → R' x c) : ∀ {xs : List α} {cs : List Value}, RepL R xs cs → RepL R' xs cs
 | [], _, k => k
 | _ :: _, _, ⟨c1, c2, e, r, k⟩ => ⟨c1, c2, e, h _ _ r, RepL.imp h k⟩
theorem RepL.len {α : Type} {R : α → List Value → Prop} {s : Nat} (h : ∀ x c, R x c → c.length = s) : ∀ {xs : List α} {cs : List Value}, RepL R xs cs → cs.length = xs.length * s
 | [], _, k => by simp [RepL] at k; simp [k]
 | _ :: xs, _, ⟨c1, c2, e, r, k⟩ => by
  have := RepL.len h k
  have := h _ _ r
  simp [e, *, Nat.add_mul, Nat.add_comm]
theorem RepL.one {α : Type} {R : α → List Value → Prop} {p : Value → Prop} (h : ∀ x c, R x c → ∀ u ∈ c, p u) : ∀ {xs : List α} {cs : List Value}, RepL R xs cs → ∀ u ∈ cs, p u
 | [], _, k => by simp [RepL] at k; simp [k]
 | _ :: xs, _, ⟨c1, c2, e, r, k⟩ => by
  intro u hu
  rw [e] at hu
  rcases List.mem_append.1 hu with hu | hu
  · exact h _ _ r u hu
  · exact RepL.one h k u hu
theorem RepL.append {α : Type} {R : α → List Value → Prop} : ∀ {xs ys : List α} {cs ds : List Value}, RepL R xs cs → RepL R ys ds → RepL R (xs ++ ys) (cs ++ ds)
 | [], _, cs, _, h, k => by simp [RepL] at h; subst h; simpa using k
 | _ :: xs, _, _, _, ⟨c1, c2, e, r, h⟩, k => ⟨c1, c2 ++ _, by simp [e], r, RepL.append h k⟩
theorem RepL.split {α : Type} {R : α → List Value → Prop} : ∀ {xs ys : List α} {cs : List Value}, RepL R (xs ++ ys) cs → ∃ c d, cs = c ++ d ∧ RepL R xs c ∧ RepL R ys d
 | [], _, cs, h => ⟨[], cs, rfl, rfl, h⟩
 | _ :: xs, _, _, ⟨c1, c2, e, r, h⟩ => by
  obtain ⟨c, d, e', h1, h2⟩ := RepL.split h
  exact ⟨c1 ++ c, d, by simp [e, e'], ⟨c1, c, rfl, r, h1⟩, h2⟩
theorem RepL.get {α : Type} {R : α → List Value → Prop} {s : Nat} (h : ∀ x c, R x c → c.length = s) {xs : List α} {cs : List Value} (k : RepL R xs cs) {i : Nat} (hi : i < xs.length) :
 ∃ c d e, cs = c ++ d ++ e ∧ c.length = i * s ∧ R xs[i] d ∧ d.length = s := by
 have hs : xs = xs.take i ++ (xs[i] :: xs.drop (i + 1)) := by rw [List.getElem_cons_drop]; exact (List.take_append_drop i xs).symm
 rw [hs] at k
 obtain ⟨c, d', e1, k1, k2⟩ := RepL.split k
 obtain ⟨d, e, e2, r, _⟩ := k2
 refine ⟨c, d, e, by rw [e1, e2, List.append_assoc], ?_, r, h _ _ r⟩
 rw [RepL.len h k1, List.length_take, Nat.min_eq_left (Nat.le_of_lt hi)]
theorem RepL.set {α : Type} {R : α → List Value → Prop} {xs : List α} {c d e : List Value} {i s : Nat} (h : ∀ x c, R x c → c.length = s) (k : RepL R xs (c ++ d ++ e)) (hc : c.length = i * s) (hd : d.length = s) (hi : i < xs.length) {y : α} {d' : List Value} (r : R y d') : RepL R (xs.set i y) (c ++ d' ++ e) := by
 have hs : xs = xs.take i ++ (xs[i] :: xs.drop (i + 1)) := by rw [List.getElem_cons_drop]; exact (List.take_append_drop i xs).symm
 have hs' : xs.set i y = xs.take i ++ (y :: xs.drop (i + 1)) := by rw [List.set_eq_take_append_cons_drop, if_pos hi]
 rw [hs] at k
 rw [hs']
 obtain ⟨c0, d0, e1, k1, ⟨d1, e0, e2, r1, k2⟩⟩ := RepL.split k
 have hc0 : c0.length = i * s := by rw [RepL.len h k1, List.length_take, Nat.min_eq_left (Nat.le_of_lt hi)]
 have hd1 : d1.length = s := h _ _ r1
 rw [e2, List.append_assoc] at e1
 have ⟨ea, eb⟩ := List.append_inj e1 (by omega)
 have ⟨ec, ed⟩ := List.append_inj eb (by omega)
 subst ea ec ed
 rw [List.append_assoc]
 exact RepL.append k1 ⟨d', _, rfl, r, k2⟩
section
variable {w w' : World} {ok ok' : Nat → Prop}
theorem Rep.len : ∀ {t : Ty} {x : t.D} {cs : List Value}, Rep w ok t x cs → cs.length = t.size
 | .int _, _, _, h => by simp [Rep] at h; simp [h, Ty.size]
 | .bool, _, _, h => by simp [Rep] at h; simp [h, Ty.size]
 | .str, _, _, h => by simp [Rep] at h; simp [h, Ty.size]
 | .unit, _, _, h => by simp [Rep] at h; simp [h, Ty.size]
 | .pair a b, _, _, ⟨c1, c2, e, h1, h2⟩ => by simp [e, Rep.len h1, Rep.len h2, Ty.size]
 | .arr n t, xs, _, ⟨e, h⟩ => by
  have := RepL.len (s := t.size) (fun x c r => Rep.len r) h
  rw [this, e, Ty.size]
 | .sl _ _, _, _, ⟨A, c, inner, e, _⟩ => by simp [e, Ty.size]
 | .hole _, _, _, ⟨v, e, _⟩ => by simp [e, Ty.size]
 | .pt _, _, _, ⟨a, i, e, _⟩ => by simp [e, Ty.size]
 | .op _, none, _, h => by
  have h : _ = [Value.pointer none] := h
  simp [h, Ty.size]
 | .op _, some _, _, ⟨a, i, e, _⟩ => by simp [e, Ty.size]
theorem Rep.one : ∀ {t : Ty} {x : t.D} {cs : List Value}, Rep w ok t x cs → ∀ u ∈ cs, u.oneCell' = true
 | .int _, _, _, h => by simp [Rep] at h; simp [h, Value.oneCell']
 | .bool, _, _, h => by simp [Rep] at h; simp [h, Value.oneCell']
 | .str, _, _, h => by simp [Rep] at h; simp [h, Value.oneCell']
 | .unit, _, _, h => by simp [Rep] at h; simp [h]
 | .pair a b, _, _, ⟨c1, c2, e, h1, h2⟩ => by
  intro u hu
  rw [e] at hu
  rcases List.mem_append.1 hu with hu | hu
  · exact Rep.one h1 u hu
  · exact Rep.one h2 u hu
 | .arr n t, xs, _, ⟨e, h⟩ => RepL.one (fun x c r => Rep.one r) h
 | .sl _ _, _, _, ⟨A, c, inner, e, _⟩ => by simp [e, Value.oneCell']
 | .hole _, _, _, ⟨v, e, h⟩ => by simp [e, h]
 | .pt _, _, _, ⟨a, i, e, _⟩ => by simp [e, Value.oneCell']
 | .op _, none, _, h => by
  have h : _ = [Value.pointer none] := h
  simp [h, Value.oneCell']
 | .op _, some _, _, ⟨a, i, e, _⟩ => by simp [e, Value.oneCell']
theorem Rep.move (hw : ∀ b, ok b → w'.heap[b]? = w.heap[b]?) (hok : ∀ b, ok b → ok' b) : ∀ {t : Ty} {x : t.D} {cs : List Value}, Rep w ok t x cs → Rep w' ok' t x cs
 | .int _, _, _, h => h
 | .bool, _, _, h => h
 | .str, _, _, h => h
 | .unit, _, _, h => h
 | .pair a b, _, _, ⟨c1, c2, e, h1, h2⟩ => ⟨c1, c2, e, Rep.move hw hok h1, Rep.move hw hok h2⟩
 | .arr n t, xs, _, ⟨e, h⟩ => ⟨e, RepL.imp (fun x c r => Rep.move hw hok r) h⟩
 | .sl _ _, xs, _, ⟨A, c, inner, e, hc, hm, h⟩ => by
  refine ⟨A, c, inner, e, hc, ?_, RepL.imp (fun x c r => Rep.move hw hok r) h⟩
  rcases hm with hm | ⟨a, ha, hk, hm⟩
  · exact .inl hm
  · exact .inr ⟨a, ha, hok _ hk, fun j u hu => by
     rw [World.cell?_of_block (w := w)]
     · exact hm j u hu
     · have : (a.add j).block = a.block := by unfold Addr.add; split <;> rfl
       rw [this]; exact hw _ hk⟩
 | .hole _, _, _, h => h
 | .pt t, x, _, ⟨a, inner, e, hk, h, hm⟩ => ⟨a, inner, e, hok _ hk, Rep.move hw hok h, fun j u hu => by
  rw [World.cell?_of_block (w := w)]
  · exact hm j u hu
  · have : (a.add j).block = a.block := by unfold Addr.add; split <;> rfl
    rw [this]; exact hw _ hk⟩
 | .op t, none, _, h => h
 | .op t, some x, _, ⟨a, inner, e, hk, h, hm⟩ => ⟨a, inner, e, hok _ hk, Rep.move hw hok h, fun j u hu => by
  rw [World.cell?_of_block (w := w)]
  · exact hm j u hu
  · have : (a.add j).block = a.block := by unfold Addr.add; split <;> rfl
    rw [this]; exact hw _ hk⟩
theorem Rep.flat_move : ∀ {t : Ty} {x : t.D} {cs : List Value}, t.flat = true → Rep w ok t x cs → Rep w' ok' t x cs
 | .int _, _, _, _, h => h
 | .bool, _, _, _, h => h
 | .str, _, _, _, h => h
 | .unit, _, _, _, h => h
 | .pair a b, _, _, hf, ⟨c1, c2, e, h1, h2⟩ => by
  simp [Ty.flat] at hf
  exact ⟨c1, c2, e, Rep.flat_move hf.1 h1, Rep.flat_move hf.2 h2⟩
 | .arr n t, xs, _, hf, ⟨e, h⟩ => by
  simp [Ty.flat] at hf
  exact ⟨e, RepL.imp (fun x c r => Rep.flat_move hf r) h⟩
 | .sl _ _, _, _, hf, _ => by simp [Ty.flat] at hf
 | .hole _, _, _, _, h => h
 | .pt _, _, _, hf, _ => by simp [Ty.flat] at hf
 | .op _, _, _, hf, _ => by simp [Ty.flat] at hf
theorem RepL.replicate {α : Type} {R : α → List Value → Prop} {x : α} {c : List Value} (h : R x c) : ∀ n, RepL R (List.replicate n x) (List.replicate n c).flatten
 | 0 => by simp [RepL]
 | n + 1 => ⟨c, _, by rw [List.replicate_succ, List.flatten_cons], h, RepL.replicate h n⟩
theorem zcells_len : ∀ (t : Ty), t.zcells.length = t.size
 | .int _ => rfl
 | .bool => rfl
 | .str => rfl
 | .unit => rfl
 | .pair a b => by simp [Ty.zcells, Ty.size, zcells_len a, zcells_len b]
 | .arr n t => by simp [Ty.zcells, Ty.size, zcells_len t]
 | .sl _ _ => rfl
 | .hole k => rfl
 | .pt _ => rfl
 | .op _ => rfl
theorem Rep.zero : ∀ (t : Ty), t.np = true → Rep w ok t t.zero t.zcells
 | .int _, _ => rfl
 | .bool, _ => rfl
 | .str, _ => rfl
 | .unit, _ => rfl
 | .pair a b, h => by simp only [Ty.np, Bool.and_eq_true] at h; exact ⟨_, _, rfl, Rep.zero a h.1, Rep.zero b h.2⟩
 | .arr n t, h => ⟨by simp [Ty.zero], RepL.replicate (Rep.zero t h) n⟩
 | .sl _ _, _ => ⟨none, 0, [], rfl, Nat.le_refl _, .inl rfl, rfl⟩
 | .hole k, _ => ⟨k.z, rfl, by cases k <;> rfl⟩
 | .pt _, h => by simp [Ty.np] at h
 | .op _, _ => rfl
end
def RepV (w : World) (ok : Nat → Prop) (t : Ty) (x : t.D) (v : Value) : Prop := ∃ cs, Rep w ok t x cs ∧ if t.isAgg then v = .agg cs.toArray else cs = [v]
theorem RepV.cells {w : World} {ok : Nat → Prop} {t : Ty} {x : t.D} {v : Value} (h : RepV w ok t x v) : Rep w ok t x v.cells.toList := by
 obtain ⟨cs, h, e⟩ := h
 cases ht : t.isAgg with
 | true => rw [ht, if_pos rfl] at e; subst e; simpa [Value.cells] using h
 | false =>
  rw [ht, if_neg (by simp)] at e
  subst e
  have := h.one v (by simp)
  cases v <;> first | exact h | simp [Value.oneCell'] at this
end Go.Iv
