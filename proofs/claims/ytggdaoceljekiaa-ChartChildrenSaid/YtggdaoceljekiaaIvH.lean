/- What the printed proofs lean on. -/
import Derived.Test.YtggdaoceljekiaaIvG
import Derived.KernelRfl
namespace Go.Iv
set_option linter.unusedVariables false

/-- Nothing is known of a slot. -/
abbrev U_ : AV := .v .un

theorem br_imp {b : Bool} {X Y X' Y' : Prop} (h : br b X Y) (h1 : X → X') (h2 : Y → Y') : br b X' Y' := by
  cases b
  · exact h2 h
  · exact h1 h
theorem an_imp {A X X' : Prop} (h : A ∧ X) (h1 : X → X') : A ∧ X' := ⟨h.1, h1 h.2⟩

inductive WE : List AV → List AV → Prop where
  | nil : WE [] []
  | un {x : AV} {xs ys : List AV} : WE xs ys → WE (.v .un :: xs) (x :: ys)
  | eq {x : AV} {xs ys : List AV} : WE xs ys → WE (x :: xs) (x :: ys)
inductive WH : List (Nat × Ob) → List (Nat × Ob) → Prop where
  | nil : WH [] []
  | skip {p : Nat × Ob} {xs ys : List (Nat × Ob)} : WH xs ys → fnd p.1 xs = none → WH xs (p :: ys)
  | eq {p : Nat × Ob} {xs ys : List (Nat × Ob)} : WH xs ys → WH (p :: xs) (p :: ys)

theorem WE.len {l l' : List AV} (h : WE l l') : l.length = l'.length := by
  induction h <;> simp_all
theorem WE.get {l l' : List AV} (h : WE l l') : ∀ i, l.getD i (.v .un) = .v .un ∨ l.getD i (.v .un) = l'.getD i (.v .un) := by
  induction h with
  | nil => intro i; exact .inr rfl
  | un _ ih => intro i; cases i with
    | zero => exact .inl rfl
    | succ i => simpa using ih i
  | eq _ ih => intro i; cases i with
    | zero => exact .inr rfl
    | succ i => simpa using ih i
theorem WH.get {l l' : List (Nat × Ob)} (h : WH l l') : ∀ i o, fnd i l = some o → fnd i l' = some o := by
  induction h with
  | nil => intro i o h; exact h
  | @skip p xs ys _ hn ih =>
    intro i o hi
    have hp : ¬ p.1 = i := by rintro rfl; rw [hn] at hi; cases hi
    have := ih i o hi
    simp only [fnd]
    rw [show Nat.beq p.1 i = false from by simpa [Nat.beq_eq_true_eq] using (Bool.eq_false_iff.2 (fun e => hp (Nat.eq_of_beq_eq_true e)))]
    exact this
  | @eq p xs ys _ ih =>
    intro i o hi
    simp only [fnd] at hi ⊢
    cases hb : Nat.beq p.1 i with
    | true => rw [hb] at hi; exact hi
    | false => rw [hb] at hi; exact ih i o hi
theorem Weak.of {e1 e2 : List AV} {h1 h2 : List (Nat × Ob)} (he : WE e1 e2) (hh : WH h1 h2) : Weak ⟨e1, h1⟩ ⟨e2, h2⟩ :=
  ⟨he.len, he.get, hh.get⟩

def lpAt (k : Nat) (fn : Func) : Code := match fn.body with
  | some c => ((lps c).find? fun x => Nat.beq (lkey x) k).getD .skip
  | none => .skip
def jnAt (k : Nat) (cx : Cx) (ct : Cuts) (fn : Func) : Jn := match fn.body with
  | some c => ((jns cx ct c fun U => U).find? fun x => Nat.beq x.key k).getD ⟨0, .skip, fun U => U⟩
  | none => ⟨0, .skip, fun U => U⟩
def lpF (ct : Cuts) (fn : Func) : List Code := match fn.body with
  | some c => (lps c).filter fun x => (look (lkey x) ct.lp).isSome
  | none => []
def jnF (cx : Cx) (ct : Cuts) (fn : Func) : List Jn := match fn.body with
  | some c => (jns cx ct c fun U => U).filter fun x => (look x.key ct.jn).isSome
  | none => []
def AllC {α : Type} (p : α → Prop) : List α → Prop
  | [] => True
  | x :: r => p x ∧ AllC p r
theorem AllC.mem {α : Type} {p : α → Prop} : ∀ {l : List α}, AllC p l → ∀ x ∈ l, p x
  | [], _, x, h => by simp at h
  | y :: r, h, x, hx => by
    rcases List.mem_cons.1 hx with rfl | hx
    · exact h.1
    · exact AllC.mem h.2 x hx
theorem fnCuts {cx : Cx} {ct : Cuts} {fn : Func} {L : List Code} {M : List Jn} (hl : lpF ct fn = L) (hj : jnF cx ct fn = M) (h1 : AllC (LpOk cx ct) L) (h2 : AllC (JnOk cx ct) M) : FnCuts cx ct fn := by
  unfold FnCuts
  cases hb : fn.body with
  | none => trivial
  | some c =>
    subst hl hj
    constructor
    · intro x hx S hS
      exact h1.mem x (by simp only [lpF, hb, List.mem_filter]; exact ⟨hx, by rw [hS]; rfl⟩) S hS
    · intro x hx S hS
      exact h2.mem x (by simp only [jnF, hb, List.mem_filter]; exact ⟨hx, by rw [hS]; rfl⟩) S hS
theorem lpOk_of {cx : Cx} {ct : Cuts} {c : Code} {S : St → (AE → St → Prop) → Prop} (hk : look (lkey c) ct.lp = some S) (h : ∀ st Q, S st Q → ∃ n, aloop (fun Q => awp cx ct c Q Q) n Q st) : LpOk cx ct c := by
  intro S' hS; rw [hk] at hS; cases hS; exact h
theorem jnOk_of {cx : Cx} {ct : Cuts} {p : Jn} {S : St → (AE → St → Prop) → Prop} (hk : look p.key ct.jn = some S) (h : ∀ st U, S st U → ∃ st1, Weak st1 st ∧ awp cx ct p.code U (p.cont U) st1) : JnOk cx ct p := by
  intro S' hS; rw [hk] at hS; cases hS; exact h

def lookF (k : Nat) : List (Nat × (List AV0 → (List AV0 → Prop) → Prop)) → Option (List AV0 → (List AV0 → Prop) → Prop)
  | [] => none
  | p :: r => bif Nat.beq p.1 k then some p.2 else lookF k r
def callOf (l : List (Nat × (List AV0 → (List AV0 → Prop) → Prop))) (f : FuncId) (args : List AV0) (J : List AV0 → Prop) : Prop := match lookF f l with
  | some F => F args J
  | none => False
theorem lookF_mem : ∀ {l : List (Nat × (List AV0 → (List AV0 → Prop) → Prop))} {f : Nat} {F}, lookF f l = some F → (f, F) ∈ l
  | [], _, _, h => by cases h
  | p :: r, f, F, h => by
    simp only [lookF] at h
    cases hb : Nat.beq p.1 f with
    | true => rw [hb] at h; cases h; have := Nat.eq_of_beq_eq_true hb; subst this; exact List.mem_cons_self ..
    | false => rw [hb] at h; exact List.mem_cons_of_mem _ (lookF_mem h)

/-- A function that may be called, and what of it is proved. -/
structure Good (P : Program) (f : FuncId) (F : List AV0 → (List AV0 → Prop) → Prop) : Prop where
  ok : FnOK P f F
  fn : ∃ fn, P.funcs[f]? = some fn ∧ (fn.name == "runtime.NumGoroutine") = false ∧ fn.body.isSome = true

/-- What the proofs need of a program's tables of types. -/
structure Base (P : Program) (tyL : List (Nat × Ty)) (byL : List (Nat × Nat)) : Prop where
  ty : ∀ T t, lookTy T tyL = some t → TyP P t T
  bytes : ∀ T e t, lookTy T tyL = some (.sl e t) → t.size ≠ 0 ∧ ∀ i, P.info? e = some i → i.bytes = lookN e byL
  mixed : P.follows .mixedOrders = true
  guard : ∀ T t, lookTy T tyL = some t → t.isAgg = true → P.eqGuardType P.depth T = false
  dep : ∀ T t, lookTy T tyL = some t → t.dep < 10000

def lookR (k : Nat) : List (Nat × RowF × Nat) → Option (RowF × TypeId)
  | [] => none
  | p :: r => bif Nat.beq p.1 k then some p.2 else lookR k r
theorem lookR_mem : ∀ {l : List (Nat × RowF × Nat)} {f : Nat} {k : RowF} {e : TypeId}, lookR f l = some (k, e) → (f, k, e) ∈ l
  | [], _, _, _, h => by cases h
  | p :: r, f, k, e, h => by
    simp only [lookR] at h
    cases hb : Nat.beq p.1 f with
    | true =>
      rw [hb] at h
      have h1 := Nat.eq_of_beq_eq_true hb
      have h2 : p.2 = (k, e) := Option.some.inj h
      obtain ⟨p1, p2⟩ := p
      subst h1 h2
      exact List.mem_cons_self ..
    | false => rw [hb] at h; exact List.mem_cons_of_mem _ (lookR_mem h)

def cxOf (tyL : List (Nat × Ty)) (byL : List (Nat × Nat)) (borL : List Nat) (rowL : List (Nat × RowF × Nat)) (own : Bool) (l : List (Nat × (List AV0 → (List AV0 → Prop) → Prop))) (nl : List Nat) : Cx :=
  { ty := fun T => lookTy T tyL, bytes := fun T => lookN T byL, call := callOf l, bor := fun f => inL f borL, nilrow := fun s => inL s nl, rowf := fun f => lookR f rowL, own := own }

theorem cxOk {P : Program} {tyL : List (Nat × Ty)} {byL : List (Nat × Nat)} (hb : Base P tyL byL) {borL : List Nat} {rowL : List (Nat × RowF × Nat)} (hr : AllC (fun p => RowOK P p.1 p.2.1 p.2.2) rowL) {l : List (Nat × (List AV0 → (List AV0 → Prop) → Prop))} {own : Bool} {nl : List Nat} (hl : AllC (fun p => Good P p.1 p.2) l) : CxOk P (cxOf tyL byL borL rowL own l nl) where
  rowf f k e h := hr.mem _ (lookR_mem h)
  ty := hb.ty
  bytes := hb.bytes
  mixed := hb.mixed
  guard := hb.guard
  dep := hb.dep
  fns := by
    intro f args J h
    simp only [cxOf, callOf] at h
    split at h
    · rename_i F hF; exact (hl.mem _ (lookF_mem hF)).fn
    · exact h.elim
  fnok := by
    intro f args J h
    simp only [cxOf, callOf] at h
    split at h
    · rename_i F hF; exact (hl.mem _ (lookF_mem hF)).ok args J h
    · exact h.elim

end Go.Iv
