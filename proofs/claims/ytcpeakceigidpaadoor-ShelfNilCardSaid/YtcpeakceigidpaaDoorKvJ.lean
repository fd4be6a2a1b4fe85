/- What the proofs need of a program's tables of types, by one reckoning. -/
import Derived.Test.YtcpeakceigidpaaDoorKvH
set_option linter.all false
namespace Go.Iv
variable [GL]
def zB : Value → Value → Bool
 | .int k n, .int k' n' => decide (k = k') && decide (n = n')
 | .bool b, .bool b' => decide (b = b')
 | .string ⟨⟨[]⟩⟩, .string ⟨⟨[]⟩⟩ => true
 | .slice none 0 0, .slice none 0 0 => true
 | .pointer none, .pointer none => true
 | _, _ => false
theorem zB_eq {a b : Value} (h : zB a b = true) : a = b := by
 unfold zB at h
 split at h <;> first | rfl | simp at h <;> simp [h]
def zsB : List Value → List Value → Bool
 | [], [] => true
 | a :: r, b :: s => zB a b && zsB r s
 | _, _ => false
theorem zsB_eq : ∀ {a b : List Value}, zsB a b = true → a = b
 | [], [], _ => rfl
 | a :: r, b :: s, h => by
  simp [zsB] at h
  rw [zB_eq h.1, zsB_eq h.2]
 | [], _ :: _, h => by simp [zsB] at h
 | _ :: _, [], h => by simp [zsB] at h
def infB (P : Program) (T : TypeId) (t : Ty) : Bool := match P.info? T with
 | some i => match i.zero with
  | some z => Nat.beq i.size t.size && zsB z.cells.toList t.zcells
  | none => false
 | none => false
theorem infB_ok {P : Program} {T : TypeId} {t : Ty} (h : infB P T t = true) : Inf P T t := by
 unfold infB at h
 split at h
 · rename_i i hi
   split at h
   · rename_i z hz
     simp at h
     exact ⟨i, z, hi, h.1, hz, zsB_eq h.2⟩
   · cases h
 · cases h
def intB (P : Program) (k : IntKind) (T : TypeId) : Bool := match P.underlying T with | some (.int k') => decide (k' = k) | _ => false
def boolB (P : Program) (T : TypeId) : Bool := match P.underlying T with | some .bool => true | _ => false
def strB (P : Program) (T : TypeId) : Bool := match P.underlying T with | some .string => true | _ => false
def arrB (P : Program) (n : Nat) (p : TypeId → Bool) (T : TypeId) : Bool := match P.underlying T with | some (.array m e) => Nat.beq m n && p e | _ => false
def slB (P : Program) (e : TypeId) (T : TypeId) : Bool := match P.underlying T with | some (.slice e') => Nat.beq e' e | _ => false
def hoB (P : Program) (k : HK) (T : TypeId) : Bool := match k, P.underlying T with
 | .ptr, some (.pointer _) => true
 | .sl, some (.slice _) => true
 | _, _ => false
def ptB1 (P : Program) (T : TypeId) : Bool := match P.underlying T with | some (.pointer _) => true | _ => false
theorem ptB1_ok {P : Program} {T : TypeId} (h : ptB1 P T = true) : ∃ e, P.underlying T = some (.pointer e) := by
 unfold ptB1 at h
 split at h
 · rename_i e he; exact ⟨e, he⟩
 · cases h
def stB (P : Program) (p : List Field → Bool) (T : TypeId) : Bool := match P.underlying T with | some (.struct fs) => p fs.toList && !(P.stoodInHeld T) | _ => false
def fdB (a : Nat) (p : TypeId → Bool) (q : List Field → Nat → Bool) (off : Nat) : List Field → Bool
 | f :: r => p f.type && Nat.beq f.offset off && !(Nat.beq a 0) && decide (f.name ≠ "_") && q r (off + a)
 | [] => false
def tyF (P : Program) : Ty → (TypeId → Bool) × (List Field → Nat → Bool)
 | .int k => (fun T => intB P k T && infB P T (.int k), fun _ _ => false)
 | .bool => (fun T => boolB P T && infB P T .bool, fun _ _ => false)
 | .str => (fun T => strB P T && infB P T .str, fun _ _ => false)
 | .unit => (fun T => stB P (fun fs => fs.isEmpty) T && infB P T .unit, fun fs _ => fs.isEmpty)
 | .pair a b => (fun T => stB P (fdB a.size (tyF P a).1 (tyF P b).2 0) T && infB P T (.pair a b), fun fs off => fdB a.size (tyF P a).1 (tyF P b).2 off fs)
 | .arr n t => (fun T => arrB P n (tyF P t).1 T && infB P T (.arr n t), fun _ _ => false)
 | .sl e t => (fun T => slB P e T && (tyF P t).1 e && infB P T (.sl e t), fun _ _ => false)
 | .hole k => (fun T => hoB P k T && infB P T (.hole k), fun _ _ => false)
 | .pt t => (fun T => ptB1 P T && infB P T (.pt t), fun _ _ => false)
 | .op t => (fun T => ptB1 P T && infB P T (.op t), fun _ _ => false)
theorem intB_ok {P : Program} {k : IntKind} {T : TypeId} (h : intB P k T = true) : P.underlying T = some (.int k) := by
 unfold intB at h
 split at h
 · rename_i e; simp at h; rw [e, h]
 · cases h
theorem boolB_ok {P : Program} {T : TypeId} (h : boolB P T = true) : P.underlying T = some .bool := by
 unfold boolB at h
 split at h
 · assumption
 · cases h
theorem strB_ok {P : Program} {T : TypeId} (h : strB P T = true) : P.underlying T = some .string := by
 unfold strB at h
 split at h
 · assumption
 · cases h
theorem slB_ok {P : Program} {e : TypeId} {T : TypeId} (h : slB P e T = true) : P.underlying T = some (.slice e) := by
 unfold slB at h
 split at h
 · rename_i e'; rw [e', Nat.eq_of_beq_eq_true h]
 · cases h
theorem arrB_ok {P : Program} {n : Nat} {p : TypeId → Bool} {T : TypeId} (h : arrB P n p T = true) : ∃ e, P.underlying T = some (.array n e) ∧ p e = true := by
 unfold arrB at h
 split at h
 · rename_i e'; simp at h; exact ⟨_, by rw [e', h.1], h.2⟩
 · cases h
theorem hoB_ok {P : Program} {k : HK} {T : TypeId} (h : hoB P k T = true) : ∃ e, P.underlying T = some (.pointer e) ∨ P.underlying T = some (.slice e) := by
 unfold hoB at h
 split at h
 · rename_i e he; exact ⟨e, .inl he⟩
 · rename_i e he; exact ⟨e, .inr he⟩
 · cases h
theorem stB_ok {P : Program} {p : List Field → Bool} {T : TypeId} (h : stB P p T = true) : ∃ fs, P.underlying T = some (.struct fs) ∧ p fs.toList = true ∧ P.stoodInHeld T = false := by
 unfold stB at h
 split at h
 · rename_i e'; simp at h; exact ⟨_, e', h.1, by simpa using h.2⟩
 · cases h
theorem fdB_ok {a : Nat} {p : TypeId → Bool} {q : List Field → Nat → Bool} {off : Nat} {fs : List Field} (h : fdB a p q off fs = true) :
 ∃ f r, fs = f :: r ∧ p f.type = true ∧ f.offset = off ∧ a ≠ 0 ∧ f.name ≠ "_" ∧ q r (off + a) = true := by
 cases fs with
 | nil => simp [fdB] at h
 | cons f r =>
  simp only [fdB, Bool.and_eq_true, decide_eq_true_eq] at h
  obtain ⟨⟨⟨⟨h1, h2⟩, h3⟩, h4⟩, h5⟩ := h
  refine ⟨f, r, rfl, h1, Nat.eq_of_beq_eq_true h2, ?_, h4, h5⟩
  intro e; subst e; simp at h3
theorem tyF_ok {P : Program} : ∀ t : Ty, (∀ T, (tyF P t).1 T = true → (TyPF P t).1 T) ∧ (∀ fs off, (tyF P t).2 fs off = true → (TyPF P t).2 fs off)
 | .int k => ⟨fun T h => by simp only [tyF, Bool.and_eq_true] at h; exact ⟨intB_ok h.1, infB_ok h.2⟩, fun fs off h => by simp [tyF] at h⟩
 | .bool => ⟨fun T h => by simp only [tyF, Bool.and_eq_true] at h; exact ⟨boolB_ok h.1, infB_ok h.2⟩, fun fs off h => by simp [tyF] at h⟩
 | .str => ⟨fun T h => by simp only [tyF, Bool.and_eq_true] at h; exact ⟨strB_ok h.1, infB_ok h.2⟩, fun fs off h => by simp [tyF] at h⟩
 | .unit => ⟨fun T h => by
  simp only [tyF, Bool.and_eq_true] at h
  obtain ⟨fs, h1, h2, h3⟩ := stB_ok h.1
  exact ⟨⟨fs, h1, by simpa using h2, h3⟩, infB_ok h.2⟩, fun fs off h => by simpa [tyF, TyPF] using h⟩
 | .pair a b => by
  have ha := tyF_ok (P := P) a
  have hb := tyF_ok (P := P) b
  refine ⟨fun T h => ?_, fun fs off h => ?_⟩
  · simp only [tyF, Bool.and_eq_true] at h
    obtain ⟨fs, h1, h2, h3⟩ := stB_ok h.1
    obtain ⟨f, r, e, k1, k2, k3, k4, k5⟩ := fdB_ok h2
    exact ⟨⟨fs, h1, f, r, e, ha.1 _ k1, k2, k3, k4, hb.2 _ _ k5, h3⟩, infB_ok h.2⟩
  · simp only [tyF] at h
    obtain ⟨f, r, e, k1, k2, k3, k4, k5⟩ := fdB_ok h
    exact ⟨f, r, e, ha.1 _ k1, k2, k3, k4, hb.2 _ _ k5⟩
 | .arr n t => ⟨fun T h => by
  simp only [tyF, Bool.and_eq_true] at h
  obtain ⟨e, h1, h2⟩ := arrB_ok h.1
  exact ⟨⟨e, h1, (tyF_ok (P := P) t).1 _ h2⟩, infB_ok h.2⟩, fun fs off h => by simp [tyF] at h⟩
 | .sl e t => ⟨fun T h => by
  simp only [tyF, Bool.and_eq_true] at h
  exact ⟨slB_ok h.1.1, (tyF_ok (P := P) t).1 _ h.1.2, infB_ok h.2⟩, fun fs off h => by simp [tyF] at h⟩
 | .hole k => ⟨fun T h => by
  simp only [tyF, Bool.and_eq_true] at h
  exact ⟨hoB_ok h.1, infB_ok h.2⟩, fun fs off h => by simp [tyF] at h⟩
 | .pt t => ⟨fun T h => by
  simp only [tyF, Bool.and_eq_true] at h
  exact ⟨ptB1_ok h.1, infB_ok h.2⟩, fun fs off h => by simp [tyF] at h⟩
 | .op t => ⟨fun T h => by
  simp only [tyF, Bool.and_eq_true] at h
  exact ⟨ptB1_ok h.1, infB_ok h.2⟩, fun fs off h => by simp [tyF] at h⟩
def byB (P : Program) (byL : List (Nat × Nat)) : Ty → Bool
 | .sl e t => !(Nat.beq t.size 0) && (match P.info? e with | some i => Nat.beq i.bytes (lookN e byL) | none => true)
 | _ => true
def guB (P : Program) (T : TypeId) (t : Ty) : Bool := match t.isAgg with
 | true => !(P.eqGuardType P.depth T)
 | false => true
def baB (P : Program) (byL : List (Nat × Nat)) : List (Nat × Ty) → Bool
 | [] => true
 | (T, t) :: r => (tyF P t).1 T && byB P byL t && guB P T t && Nat.blt t.dep 10000 && t.np && baB P byL r
theorem lookTy_mem {P : Program} {byL : List (Nat × Nat)} : ∀ {l : List (Nat × Ty)} {T : Nat} {t : Ty}, lookTy T l = some t → baB P byL l = true → ((tyF P t).1 T && byB P byL t && guB P T t && Nat.blt t.dep 10000 && t.np) = true
 | [], _, _, h, _ => by cases h
 | p :: r, T, t, h, k => by
  simp only [lookTy] at h
  simp only [baB, Bool.and_eq_true] at k
  cases hb : Nat.beq p.1 T with
  | true => rw [hb] at h; cases h; have := Nat.eq_of_beq_eq_true hb; subst this; simp only [Bool.and_eq_true]; exact k.1
  | false => rw [hb] at h; exact lookTy_mem h k.2
def ptB (P : Program) : List Nat → Bool
 | [] => true
 | T :: r => (match P.underlying T with | some (.pointer _) => true | _ => false) && ((match P.info? T with | some i => Nat.beq i.size 1 | none => false) && ptB P r)
theorem ptB_ok {P : Program} {T : Nat} : ∀ {l : List Nat}, ptB P l = true → inL T l = true → ∃ e, P.underlying T = some (.pointer e)
 | [], _, h => by cases h
 | p :: r, h, k => by
  simp only [ptB, Bool.and_eq_true] at h
  simp only [inL] at k
  cases hb : Nat.beq p T with
  | true =>
   have := Nat.eq_of_beq_eq_true hb
   subst this
   have h1 := h.1
   split at h1
   · rename_i e he; exact ⟨e, he⟩
   · cases h1
  | false => rw [hb] at k; exact ptB_ok h.2.2 k
theorem ptS_ok {P : Program} {T : Nat} : ∀ {l : List Nat}, ptB P l = true → inL T l = true → ∃ i, P.info? T = some i ∧ i.size = 1
 | [], _, h => by cases h
 | p :: r, h, k => by
  simp only [ptB, Bool.and_eq_true] at h
  simp only [inL] at k
  cases hb : Nat.beq p T with
  | true =>
   have := Nat.eq_of_beq_eq_true hb
   subst this
   have h1 := h.2.1
   split at h1
   · rename_i i he; exact ⟨i, he, Nat.eq_of_beq_eq_true h1⟩
   · cases h1
  | false => rw [hb] at k; exact ptS_ok h.2.2 k
theorem Base.of {P : Program} {tyL : List (Nat × Ty)} {byL : List (Nat × Nat)} {ptrL : List Nat} (hm : P.follows .mixedOrders = true) (h : baB P byL tyL = true) (hp : ptB P ptrL = true) : Base P tyL byL ptrL where
 ptr T hT := ptB_ok hp hT
 ptrS T hT := ptS_ok hp hT
 mixed := hm
 ty T t ht := by have := lookTy_mem ht h; simp only [Bool.and_eq_true] at this; exact (tyF_ok t).1 T this.1.1.1.1
 bytes T e t ht := by
  have := lookTy_mem ht h
  simp only [Bool.and_eq_true] at this
  have := this.1.1.1.2
  simp only [byB, Bool.and_eq_true] at this
  refine ⟨fun e => by rw [e] at this; simp at this, fun i hi => ?_⟩
  rw [hi] at this
  exact Nat.eq_of_beq_eq_true this.2
 guard T t ht ha := by
  have := lookTy_mem ht h
  simp only [Bool.and_eq_true] at this
  have := this.1.1.2
  unfold guB at this
  rw [ha] at this
  simpa using this
 dep T t ht := by
  have := lookTy_mem ht h
  simp only [Bool.and_eq_true] at this
  have := this.1.2
  rwa [Nat.blt_eq] at this
 np T t ht := by
  have := lookTy_mem ht h
  simp only [Bool.and_eq_true] at this
  exact this.2
def rtB (P : Program) : List (Nat × Ty) → Bool
 | [] => true
 | (T, t) :: r => (tyF P t).1 T && rtB P r
theorem rtB_ok {P : Program} : ∀ {l : List (Nat × Ty)}, rtB P l = true → ∀ (T : Nat) (t : Ty), lookTy T l = some t → TyP P t T
 | [], _, _, _, h => by cases h
 | p :: r, k, T, t, h => by
  simp only [lookTy] at h
  simp only [rtB, Bool.and_eq_true] at k
  cases hb : Nat.beq p.1 T with
  | true => rw [hb] at h; cases h; have := Nat.eq_of_beq_eq_true hb; subst this; exact (tyF_ok _).1 _ k.1
  | false => rw [hb] at h; exact rtB_ok k.2 T t h
end Go.Iv
