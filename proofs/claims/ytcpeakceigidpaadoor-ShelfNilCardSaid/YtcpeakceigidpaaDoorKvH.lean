/- What the printed proofs lean on. -/
import Derived.Test.YtcpeakceigidpaaDoorKvG
import Derived.KernelRfl
set_option linter.all false
namespace Go.Iv
variable [GL]
theorem cast?_self {t : Ty} {x : t.D} : cast? t t x = some x := by
 unfold cast?
 rw [dif_pos rfl]
theorem SkO.rd_mk {o : SkO} {x : o.ty.D} : o.rd (some (o.mk x)) = some x := by
 cases o with
 | box T t => simp only [SkO.mk, SkO.rd]; rw [show Nat.beq T T = true from by simp, cond_true]; exact cast?_self
 | row e t => simp only [SkO.mk, SkO.rd]; exact cast?_self
theorem envRd_mk {R : Type} {z : R} : ∀ {l : List (Nat × SkV)} {x : envD R l} (e : List (Nat × AV)), (∀ i, inL i (l.map (·.1)) = true → fndE i e = fndE i (envMk l x).1) → distinctL (l.map (·.1)) = true → (envMk l x).2 = z → envRd z e l = some x
 | [], _, _, _, _, hz => by cases hz; rfl
 | (s, k) :: r, x, e, he, hd, hz => by
  simp only [List.map_cons, distinctL, Bool.and_eq_true, Bool.not_eq_true'] at hd
  have hs : fndE s e = fndE s (envMk ((s, k) :: r) x).1 := he s (by simp [inL])
  have rest : ∀ (y : envD R r) (a : AV), (envMk ((s, k) :: r) x).1 = (s, a) :: (envMk r y).1 → ∀ i, inL i (r.map (·.1)) = true → fndE i e = fndE i (envMk r y).1 := by
   intro y a hy i hi
   have hne : ¬ s = i := fun e => by subst e; rw [hd.1] at hi; cases hi
   rw [he i (by simp [inL, nbeq, hne, hi]), hy]
   simp [fndE, nbeq, hne]
  cases k with
  | row i =>
   have hs : fndE s e = .v (.row i) := by rw [hs]; simp [envMk, fndE]
   show (bif vRow i (fndE s e) then envRd z e r else none) = some x
   rw [hs]
   rw [show vRow i (.v (.row i)) = true from by simp [vRow], cond_true]
   exact envRd_mk e (rest x _ rfl) hd.2 hz
  | ptr i o =>
   have hs : fndE s e = .v (.ptr i o) := by rw [hs]; simp [envMk, fndE]
   show (bif vPtr i o (fndE s e) then envRd z e r else none) = some x
   rw [hs]
   rw [show vPtr i o (.v (.ptr i o)) = true from by simp [vPtr], cond_true]
   exact envRd_mk e (rest x _ rfl) hd.2 hz
  | fn f =>
   have hs : fndE s e = .v (.fn f) := by rw [hs]; simp [envMk, fndE]
   show (bif vFn f (fndE s e) then envRd z e r else none) = some x
   rw [hs]
   rw [show vFn f (.v (.fn f)) = true from by simp [vFn], cond_true]
   exact envRd_mk e (rest x _ rfl) hd.2 hz
  | var t =>
   have hs : fndE s e = .v (.tv t x.1) := by rw [hs]; simp [envMk, fndE]
   show (match vTv t (fndE s e) with | some y => (match envRd z e r with | some q => some (y, q) | none => none) | none => none) = some x
   rw [hs]
   rw [show vTv t (.v (.tv t x.1)) = some x.1 from cast?_self]
   simp only [envRd_mk e (rest x.2 _ rfl) hd.2 hz]
  | rvar t =>
   have hs : fndE s e = .v (.rptr t x.1) := by rw [hs]; simp [envMk, fndE]
   show (match vRp t (fndE s e) with | some y => (match envRd z e r with | some q => some (y, q) | none => none) | none => none) = some x
   rw [hs]
   rw [show vRp t (.v (.rptr t x.1)) = some x.1 from cast?_self]
   simp only [envRd_mk e (rest x.2 _ rfl) hd.2 hz]
  | wbx i o n a t =>
   have hs : fndE s e = .v (.wbx i o n a t) := by rw [hs]; simp [envMk, fndE]
   show (bif vWbx i o n a t (fndE s e) then envRd z e r else none) = some x
   rw [hs]
   rw [show vWbx i o n a t (.v (.wbx i o n a t)) = true from by simp [vWbx], cond_true]
   exact envRd_mk e (rest x _ rfl) hd.2 hz
  | nilp =>
   have hs : fndE s e = .v .nilp := by rw [hs]; simp [envMk, fndE]
   show (bif vNil (fndE s e) then envRd z e r else none) = some x
   rw [hs]
   rw [show vNil (.v .nilp) = true from rfl, cond_true]
   exact envRd_mk e (rest x _ rfl) hd.2 hz
  | sub i =>
   have hs : fndE s e = .v (.sub i x.1.1 x.1.2) := by rw [hs]; simp [envMk, fndE]
   show (match vSub i (fndE s e) with | some y => (match envRd z e r with | some q => some (y, q) | none => none) | none => none) = some x
   rw [hs]
   rw [show vSub i (.v (.sub i x.1.1 x.1.2)) = some x.1 from by simp [vSub]]
   simp only [envRd_mk e (rest x.2 _ rfl) hd.2 hz]
  | clo f t =>
   have hs : fndE s e = .v (.clo f t x.1) := by rw [hs]; simp [envMk, fndE]
   show (match vClo f t (fndE s e) with | some y => (match envRd z e r with | some q => some (y, q) | none => none) | none => none) = some x
   rw [hs]
   rw [show vClo f t (.v (.clo f t x.1)) = some x.1 from by simp [vClo, cast?_self]]
   simp only [envRd_mk e (rest x.2 _ rfl) hd.2 hz]
theorem hpMk_no {i : Nat} : ∀ {l : List (Nat × SkO)} {x : hpD l}, inL i (l.map (·.1)) = false → fnd i (hpMk l x) = none
 | [], _, _ => rfl
 | (j, o) :: r, x, h => by
  simp only [List.map_cons, inL] at h
  cases hb : Nat.beq j i with
  | true => rw [hb] at h; cases h
  | false =>
   rw [hb, cond_false] at h
   simp only [hpMk, fnd]
   rw [hb, cond_false]
   exact hpMk_no h
theorem hpRd_cons {j : Nat} {b : Ob} {hp : List (Nat × Ob)} : ∀ {l : List (Nat × SkO)}, inL j (l.map (·.1)) = false → hpRd ((j, b) :: hp) l = hpRd hp l
 | [], _ => rfl
 | (i, o) :: r, h => by
  simp only [List.map_cons, inL] at h
  cases hb : Nat.beq i j with
  | true => rw [hb] at h; cases h
  | false =>
   rw [hb, cond_false] at h
   have hb' : Nat.beq j i = false := by
    rw [nbeq] at hb ⊢
    simp at hb ⊢
    exact fun e => hb e.symm
   unfold hpRd
   rw [hpRd_cons h]
   simp only [fnd]
   rw [hb', cond_false]
theorem hpRd_mk : ∀ {l : List (Nat × SkO)} {x : hpD l}, distinctL (l.map (·.1)) = true → hpRd (hpMk l x) l = some x
 | [], _, _ => rfl
 | (i, o) :: r, x, h => by
  simp only [List.map_cons, distinctL, Bool.and_eq_true, Bool.not_eq_true'] at h
  unfold hpRd
  simp only [hpMk, fnd]
  rw [show Nat.beq i i = true from by simp, cond_true, hpRd_cons h.1, hpRd_mk h.2, SkO.rd_mk]
def Sk.ok (k : Sk) : Bool := rfOk (rfMk k.rf) k.rf && ((distinctL (k.hp.map (·.1)) && distinctL (k.env.map (·.1))) && (k.fz.all fun i => !inL i (k.hp.map (·.1))))
theorem freezes_none : ∀ {l : List Nat} {st : St}, (∀ i ∈ l, fnd i st.hp = none) → freezes st l = st
 | [], _, _ => rfl
 | i :: r, st, h => by
  unfold freezes
  have : st.freeze i = st := by
   unfold St.freeze
   rw [h i (List.mem_cons_self ..)]
  rw [this]
  exact freezes_none fun j hj => h j (List.mem_cons_of_mem _ hj)
theorem Sk.rd_mk {k : Sk} (hk : k.ok = true) {x : k.D} : k.rd (k.mk' x) = some x := by
 simp only [Sk.ok, Bool.and_eq_true, List.all_eq_true, Bool.not_eq_true'] at hk
 obtain ⟨hrf, hk⟩ := hk
 unfold Sk.rd
 rw [freezes_none (st := k.mk' x) (fun i hi => hpMk_no (hk.2 i hi))]
 show (match hpRd (hpMk k.hp (envMk k.env x).2) k.hp with | some z => bif Nat.beq k.n k.n then (bif rfOk (rfMk k.rf) k.rf then envRd z (envMk k.env x).1 k.env else none) else none | none => none) = some x
 rw [hpRd_mk hk.1.1]
 simp only
 rw [show Nat.beq k.n k.n = true from by simp, cond_true, hrf, cond_true]
 exact envRd_mk _ (fun _ _ => rfl) hk.1.2 rfl
theorem Sk.as_out {k : Sk} {st : St} {F : k.D → Prop} (h : k.as st F) : ∃ x, k.rd st = some x ∧ F x := by
 unfold Sk.as at h
 split at h
 · rename_i x hx; exact ⟨x, hx, h⟩
 · exact h.elim
theorem Sk.as_mk {k : Sk} (hk : k.ok = true) {x : k.D} {F : k.D → Prop} : k.as (k.mk' x) F = F x := by
 unfold Sk.as
 rw [Sk.rd_mk hk]
theorem AE.beq_eq {a b : AE} : AE.beq a b = true ↔ a = b := by
 cases a <;> cases b <;> simp [AE.beq]
theorem can_out : ∀ {exs : List (AE × Sk)} {Q : AE → St → Prop} {e : AE} {s : St}, can exs Q e s → ∃ s1, Ent s s1 ∧ Q e s1
 | [], _, _, _, h => h.elim
 | (a, k) :: r, Q, e, s, h => by
  unfold can at h
  cases hb : AE.beq a e with
  | false => rw [hb] at h; exact can_out h
  | true =>
   rw [hb, cond_true] at h
   have := AE.beq_eq.1 hb
   subst this
   obtain ⟨x, hx, hq⟩ := Sk.as_out h
   exact ⟨_, Sk.rd_ent hx, hq⟩
def exsOk (exs : List (AE × Sk)) : Bool := exs.all fun p => p.2.ok
theorem can_key {Q X : AE → St → Prop} {e : AE} : ∀ {exs : List (AE × Sk)}, exsOk exs = true → (∀ s, X e s = can exs Q e s) → ∀ s, can exs X e s = can exs Q e s
 | [], _, _, _ => rfl
 | (a, k) :: r, hok, h, s => by
  simp only [exsOk, List.all_cons, Bool.and_eq_true] at hok
  simp only [can] at h ⊢
  cases hb : AE.beq a e with
  | false =>
   rw [hb] at h
   simp only [cond_false] at h ⊢
   exact can_key hok.2 h s
  | true =>
   rw [hb] at h
   simp only [cond_true] at h ⊢
   have := AE.beq_eq.1 hb
   subst this
   congr 1
   funext x
   rw [h, Sk.as_mk hok.1]
def fnV (ex : List (AE × Sk)) (U : AE → St → Prop) : AE → St → Prop := match ex with
 | [] => U
 | l => can l U
def lpV (k : Sk) (ex : List (AE × Sk)) (U : AE → St → Prop) : AE → St → Prop := lpQ k (fun x => U .normal (k.mk' x)) ex U
theorem fnV_fnV {ex : List (AE × Sk)} (h : exsOk ex = true) {U : AE → St → Prop} : fnV ex (fnV ex U) = fnV ex U := by
 unfold fnV
 cases ex with
 | nil => rfl
 | cons p r => funext e s; exact can_key h (fun _ => rfl) s
theorem fnV_out {ex : List (AE × Sk)} {U : AE → St → Prop} {e : AE} {s : St} (h : fnV ex U e s) : ∃ s1, Ent s s1 ∧ U e s1 := by
 unfold fnV at h
 cases ex with
 | nil => exact ⟨s, Ent.refl s, h⟩
 | cons p r => exact can_out h
theorem lpV_lpQ {k : Sk} {ex : List (AE × Sk)} (hk : k.ok = true) (h : exsOk ex = true) {X : k.D → Prop} {Q : AE → St → Prop} : lpV k ex (lpQ k X ex Q) = lpQ k X ex Q := by
 funext e s
 cases e with
 | normal =>
  show k.as s (fun x => k.as (k.mk' x) X) = k.as s X
  congr 1
  funext x
  exact Sk.as_mk hk
 | exit i => exact can_key (e := .exit i) (Q := Q) (X := lpQ k X ex Q) h (fun _ => rfl) s
 | ret => exact can_key (e := .ret) (Q := Q) (X := lpQ k X ex Q) h (fun _ => rfl) s
def lookV (k : Nat) : List (Nat × ((AE → St → Prop) → AE → St → Prop)) → Option ((AE → St → Prop) → AE → St → Prop)
 | [] => none
 | p :: r => bif Nat.beq p.1 k then some p.2 else lookV k r
def usOf (ex : List (AE × Sk)) (l : List (Nat × ((AE → St → Prop) → AE → St → Prop))) : Option Nat → (AE → St → Prop) → Prop
 | none, U => fnV ex U = U
 | some k, U => match lookV k l with
  | some V => V U = U
  | none => True
theorem lp_gen {cx : Cx} {ct : Cuts} {us : Option Nat → (AE → St → Prop) → Prop} {c : Code} (key : Nat) (hkey : lkey c = key) (sk : Sk) (exs : List (AE × Sk)) (X : (AE → St → Prop) → Nat → sk.D → Prop) (hk : look key ct.lp = some (fun st Q => sk.as st fun x => ∃ n, X Q n x))
 (h0 : ∀ Q x, X Q 0 x = False) (h1 : ∀ Q n x, X Q (n + 1) x = awp cx ct c (lpQ sk (X Q n) exs Q) (lpQ sk (X Q n) exs Q) (sk.mk' x)) (hus : ∀ Q n, us (some key) (lpQ sk (X Q n) exs Q)) : LpOk cx ct us c := by
 subst hkey
 intro S hS st Q h
 rw [hk] at hS
 cases hS
 obtain ⟨x, hx, n, h'⟩ := Sk.as_out h
 clear h
 refine ⟨n, ?_⟩
 have hent := Sk.rd_ent hx
 clear hx
 induction n generalizing st x with
 | zero => rw [h0] at h'; exact h'.elim
 | succ n ih =>
  rw [h1] at h'
  refine ⟨sk.mk' x, lpQ sk (X Q n) exs Q, hent, hus Q n, ?_, h'⟩
  intro e s hq
  cases e with
  | normal =>
   obtain ⟨y, hy, hq⟩ := Sk.as_out (show sk.as s (X Q n) from hq)
   exact ih s y hq (Sk.rd_ent hy)
  | exit i => exact can_out (show can exs Q (.exit i) s from hq)
  | ret => exact can_out (show can exs Q .ret s from hq)
theorem jn_gen {cx : Cx} {ct : Cuts} {us : Option Nat → (AE → St → Prop) → Prop} {p : Jn} (lp : Option Nat) (hlp : p.lp = lp) (sk : Sk) (X : (AE → St → Prop) → sk.D → Prop) (V : (AE → St → Prop) → AE → St → Prop) (hk : look p.key ct.jn = some (fun st U => sk.as st (X U)))
 (hu : ∀ U, us lp U → V U = U) (h : ∀ U x, X U x = awp cx ct p.code (V U) (p.cont (V U)) (sk.mk' x)) : JnOk cx ct us p := by
 intro S hS U hU st hh
 rw [hlp] at hU
 rw [hk] at hS
 cases hS
 obtain ⟨x, hx, hh⟩ := Sk.as_out hh
 refine ⟨_, Sk.rd_ent hx, ?_⟩
 rw [h, hu U hU] at hh
 exact hh
inductive PS where
 | t (t : Ty)
 | fn (f : FuncId)
 | rp (t : Ty)
 | nil
 | clo (f : FuncId) (t : Ty)
@[reducible] def psD : List PS → Type
 | [] => Unit
 | .t t :: r => t.D × psD r
 | .fn _ :: r => psD r
 | .rp t :: r => t.D × psD r
 | .nil :: r => psD r
 | .clo _ t :: r => t.D × psD r
def psMk : (l : List PS) → psD l → List AV0
 | [], _ => []
 | .t t :: r, x => .tv t x.1 :: psMk r x.2
 | .fn f :: r, x => .fn f :: psMk r x
 | .rp t :: r, x => .rptr t x.1 :: psMk r x.2
 | .nil :: r, x => .nilp :: psMk r x
 | .clo f t :: r, x => .clo f t x.1 :: psMk r x.2
def psRd : (l : List PS) → List AV0 → Option (psD l)
 | [], [] => some ()
 | .t t :: r, .tv t' x :: l => (match cast? t' t x with
  | some x => (match psRd r l with | some y => some (x, y) | none => none)
  | none => none)
 | .fn f :: r, .fn g :: l => bif Nat.beq f g then psRd r l else none
 | .rp t :: r, .rptr t' x :: l => (match cast? t' t x with
  | some x => (match psRd r l with | some y => some (x, y) | none => none)
  | none => none)
 | .nil :: r, .nilp :: l => psRd r l
 | .clo f t :: r, .clo g t' x :: l => bif Nat.beq f g then (match cast? t' t x with
  | some x => (match psRd r l with | some y => some (x, y) | none => none)
  | none => none) else none
 | _, _ => none
theorem psRd_out : ∀ {l : List PS} {args : List AV0} {x : psD l}, psRd l args = some x → args = psMk l x := by
 intro l
 induction l with
 | nil =>
  intro args x h
  cases args with
  | nil => rfl
  | cons a r => exact absurd (show (none : Option Unit) = some x from h) (by simp)
 | cons k r ih =>
  intro args x h
  cases args with
  | nil => cases k <;> exact absurd (show (none : Option _) = some x from h) (by simp)
  | cons a args =>
   cases k with
   | t t =>
    rcases a with (⟨t', y⟩ | _ | _ | _ | _ | _ | _ | _ | _ | _ | _ | _ | _ | _ | _ | _) <;> first | exact absurd (show (none : Option _) = some x from h) (by simp) | skip
    have h : (match cast? t' t y with | some y => (match psRd r args with | some q => some (y, q) | none => none) | none => none) = some x := h
    cases hc : cast? t' t y with
    | none => rw [hc] at h; cases h
    | some u =>
     rw [hc] at h
     simp only at h
     cases hq : psRd r args with
     | none => rw [hq] at h; cases h
     | some q =>
      rw [hq] at h
      cases h
      obtain ⟨e, hu⟩ := cast?_out hc
      subst e; subst hu
      rw [ih hq]
      rfl
   | fn f =>
    rcases a with (_ | _ | _ | _ | _ | g | _ | _ | _ | _ | _ | _ | _ | _ | _ | _) <;> first | exact absurd (show (none : Option _) = some x from h) (by simp) | skip
    have h : (bif Nat.beq f g then psRd r args else none) = some x := h
    cases hb : Nat.beq f g with
    | false => rw [hb] at h; cases h
    | true =>
     rw [hb, cond_true] at h
     rw [ih h, show g = f from (Nat.eq_of_beq_eq_true hb).symm]
     rfl
   | rp t =>
    rcases a with (_ | _ | _ | ⟨t', y⟩ | _ | _ | _ | _ | _ | _ | _ | _ | _ | _ | _ | _) <;> first | exact absurd (show (none : Option _) = some x from h) (by simp) | skip
    have h : (match cast? t' t y with | some y => (match psRd r args with | some q => some (y, q) | none => none) | none => none) = some x := h
    cases hc : cast? t' t y with
    | none => rw [hc] at h; cases h
    | some u =>
     rw [hc] at h
     simp only at h
     cases hq : psRd r args with
     | none => rw [hq] at h; cases h
     | some q =>
      rw [hq] at h
      cases h
      obtain ⟨e, hu⟩ := cast?_out hc
      subst e; subst hu
      rw [ih hq]
      rfl
   | nil =>
    rcases a with (_ | _ | _ | _ | _ | _ | _ | _ | _ | _ | _ | _ | _ | _ | _ | _) <;> first | exact absurd (show (none : Option _) = some x from h) (by simp) | skip
    have h : psRd r args = some x := h
    rw [ih h]
    rfl
   | clo f t =>
    rcases a with (_ | _ | _ | _ | _ | _ | _ | _ | _ | _ | _ | ⟨g, t', y⟩ | _ | _ | _ | _) <;> first | exact absurd (show (none : Option _) = some x from h) (by simp) | skip
    have h : (bif Nat.beq f g then (match cast? t' t y with | some y => (match psRd r args with | some q => some (y, q) | none => none) | none => none) else none) = some x := h
    cases hb : Nat.beq f g with
    | false => rw [hb] at h; cases h
    | true =>
    rw [hb, cond_true] at h
    cases hc : cast? t' t y with
    | none => rw [hc] at h; cases h
    | some u =>
     rw [hc] at h
     simp only at h
     cases hq : psRd r args with
     | none => rw [hq] at h; cases h
     | some q =>
      rw [hq] at h
      cases h
      obtain ⟨e, hu⟩ := cast?_out hc
      subst e; subst hu
      rw [ih hq, show g = f from (Nat.eq_of_beq_eq_true hb).symm]
      rfl
def byPs (l : List PS) (G : psD l → (List AV0 → Prop) → Prop) (args : List AV0) (J : List AV0 → Prop) : Prop := match psRd l args with
 | some x => G x J
 | none => False
def lpAt (k : Nat) (fn : Func) : Code := match fn.body with
 | some c => ((lps c).find? fun x => Nat.beq (lkey x) k).getD .skip
 | none => .skip
def jnAt (k : Nat) (cx : Cx) (ct : Cuts) (fn : Func) : Jn := match fn.body with
 | some c => ((jns cx ct c none fun U => U).find? fun x => Nat.beq x.key k).getD ⟨0, .skip, fun U => U, none⟩
 | none => ⟨0, .skip, fun U => U, none⟩
def lpF (ct : Cuts) (fn : Func) : List Code := match fn.body with
 | some c => (lps c).filter fun x => (look (lkey x) ct.lp).isSome
 | none => []
def jnF (cx : Cx) (ct : Cuts) (fn : Func) : List Jn := match fn.body with
 | some c => (jns cx ct c none fun U => U).filter fun x => (look x.key ct.jn).isSome
 | none => []
def rfF (fn : Func) : List (Code × Code × Array Tmp) := match fn.body with
 | some c => rfs c
 | none => []
def plF (ct : Cuts) (fn : Func) : Bool := match fn.body with
 | some c => plansOK ct c
 | none => false
def AllC {α : Type} (p : α → Prop) : List α → Prop
 | [] => True
 | x :: r => p x ∧ AllC p r
theorem AllC.mem {α : Type} {p : α → Prop} : ∀ {l : List α}, AllC p l → ∀ x ∈ l, p x
 | [], _, x, h => by simp at h
 | y :: r, h, x, hx => by
  rcases List.mem_cons.1 hx with rfl | hx
  · exact h.1
  · exact AllC.mem h.2 x hx
structure Good (P : Program) (f : FuncId) (F : List AV0 → (List AV0 → Prop) → Prop) : Prop where
 det : ∀ args J, F args J → ∃ res, J res ∧ FnOK P f (fun a J' => a = args ∧ J' res)
 fn : ∃ fn, P.funcs[f]? = some fn ∧ (fn.name == "runtime.NumGoroutine") = false ∧ fn.body.isSome = true
theorem Good.ok {P : Program} {f : FuncId} {F : List AV0 → (List AV0 → Prop) → Prop} (h : Good P f F) : FnOK P f F := fun args J hF => by
 obtain ⟨res, hj, hok⟩ := h.det args J hF
 exact hok args J ⟨rfl, hj⟩
theorem good_gen {P : Program} {cx : Cx} {ct : Cuts} {n : FuncId} {fn : Func} {us : List (Nat × ((AE → St → Prop) → AE → St → Prop))} (hcx : CxOk P cx) (hf : P.funcs[n]? = some fn) (hn : (fn.name == "runtime.NumGoroutine") = false) (hb : fn.body.isSome = true)
 (ps : List PS) (G : psD ps → (List AV0 → Prop) → Prop) (hG : ∀ x J, G x J = fnA cx ct fn (psMk ps x) J) (hex : exsOk ct.ex = true) (hpl : plF ct fn = true) {L : List Code} {M : List Jn} (hl : lpF ct fn = L) (hj : jnF cx ct fn = M) (h1 : AllC (LpOk cx ct (usOf ct.ex us)) L) (h2 : AllC (JnOk cx ct (usOf ct.ex us)) M) (R : List (Code × Code × Array Tmp) := []) (hr : rfF fn = R := by kernel_rfl) (h3 : AllC (fun x => RfOk cx ct x.1 x.2.1 x.2.2) R := by trivial) : Good P n (byPs ps G) where
 fn := ⟨fn, hf, hn, hb⟩
 det := by
  refine fn_det hcx hf fun args J h => ?_
  unfold byPs at h
  split at h
  · rename_i x hx
    rw [psRd_out hx]
    rw [hG] at h
    unfold fnA at h
    cases hc : fn.body with
    | none => rw [hc] at hb; cases hb
    | some c =>
     rw [hc] at h
     have e : fnK cx ct fn J = fnV ct.ex (endK cx fn J) := rfl
     refine ⟨ct, usOf ct.ex us, fnK cx ct fn J, ?_, ?_, ?_, c, rfl, h⟩
     · intro c' hc'
       cases hc'
       subst hl hj hr
       refine ⟨by simpa [plF, hc] using hpl, ?_, ?_, fun x hx => h3.mem x (by simp only [rfF, hc]; exact hx)⟩
       · intro x hx S hS
         exact h1.mem x (by simp only [lpF, hc, List.mem_filter]; exact ⟨hx, by rw [hS]; rfl⟩) S hS
       · intro x hx S hS
         exact h2.mem x (by simp only [jnF, hc, List.mem_filter]; exact ⟨hx, by rw [hS]; rfl⟩) S hS
     · show fnV ct.ex (fnK cx ct fn J) = fnK cx ct fn J
       rw [e]; exact fnV_fnV hex
     · intro e' s hs
       rw [e] at hs
       exact fnV_out hs
  · exact h.elim
def orP (F G : List AV0 → (List AV0 → Prop) → Prop) (args : List AV0) (J : List AV0 → Prop) : Prop := match args with
 | .nilp :: r => F (.nilp :: r) J
 | l => G l J
theorem Good.orP {P : Program} {f : FuncId} {F G : List AV0 → (List AV0 → Prop) → Prop} (h1 : Good P f F) (h2 : Good P f G) : Good P f (orP F G) where
 fn := h1.fn
 det := by
  intro args J h
  unfold Go.Iv.orP at h
  split at h
  · exact h1.det _ J h
  · exact h2.det _ J h
theorem goodS_gen {P : Program} {cx : Cx} {ct : Cuts} {n : FuncId} {fn : Func} {us : List (Nat × ((AE → St → Prop) → AE → St → Prop))} (hcx : CxOk P cx) (hf : P.funcs[n]? = some fn) (hn : (fn.name == "runtime.NumGoroutine") = false) (hb : fn.body.isSome = true)
 {S : SFn} (hG : ∀ x J, S.F x J = fnAS cx ct fn S.inn S.out x J) (hst : stOK S.inn fn = true) (hex : exsOk ct.ex = true) (hpl : plF ct fn = true) {L : List Code} {M : List Jn} (hl : lpF ct fn = L) (hj : jnF cx ct fn = M) (h1 : AllC (LpOk cx ct (usOf ct.ex us)) L) (h2 : AllC (JnOk cx ct (usOf ct.ex us)) M) (R : List (Code × Code × Array Tmp) := []) (hr : rfF fn = R := by kernel_rfl) (h3 : AllC (fun x => RfOk cx ct x.1 x.2.1 x.2.2) R := by trivial) : SOK P n S := by
 have det : ∀ x J, S.F x J → ∃ i y, J i y ∧ FnS P n ⟨S.inn, S.out, fun x' J' => x' = x ∧ J' i y⟩ := by
  refine fnS_det hcx hf hst (fun x J h => ?_)
  rw [hG] at h
  unfold fnAS at h
  cases hc : fn.body with
  | none => rw [hc] at hb; cases hb
  | some c =>
   rw [hc] at h
   have e : fnKS cx ct fn S.inn S.out J = fnV ct.ex (endS cx fn S.inn S.out J) := rfl
   refine ⟨ct, usOf ct.ex us, fnKS cx ct fn S.inn S.out J, ?_, ?_, ?_, c, rfl, h⟩
   · intro c' hc'
     cases hc'
     subst hl hj hr
     refine ⟨by simpa [plF, hc] using hpl, ?_, ?_, fun x hx => h3.mem x (by simp only [rfF, hc]; exact hx)⟩
     · intro x hx T hT
       exact h1.mem x (by simp only [lpF, hc, List.mem_filter]; exact ⟨hx, by rw [hT]; rfl⟩) T hT
     · intro x hx T hT
       exact h2.mem x (by simp only [jnF, hc, List.mem_filter]; exact ⟨hx, by rw [hT]; rfl⟩) T hT
   · show fnV ct.ex (fnKS cx ct fn S.inn S.out J) = fnKS cx ct fn S.inn S.out J
     rw [e]; exact fnV_fnV hex
   · intro e' s hs
     rw [e] at hs
     exact fnV_out hs
 exact ⟨⟨fn, hf, hn, hb⟩, fun x J h => let ⟨i, y, hy, hok⟩ := det x J h; fun w m ok vals r => hok x J ⟨rfl, hy⟩ w m ok vals r, det⟩
def lookS (k : Nat) : List (Nat × SFn) → Option SFn
 | [] => none
 | p :: r => bif Nat.beq p.1 k then some p.2 else lookS k r
theorem lookS_mem : ∀ {l : List (Nat × SFn)} {f : Nat} {S}, lookS f l = some S → (f, S) ∈ l
 | [], _, _, h => by cases h
 | p :: r, f, S, h => by
  simp only [lookS] at h
  cases hb : Nat.beq p.1 f with
  | true => rw [hb] at h; cases h; have := Nat.eq_of_beq_eq_true hb; subst this; exact List.mem_cons_self ..
  | false => rw [hb] at h; exact List.mem_cons_of_mem _ (lookS_mem h)
def lookSp (d : Nat) : List (Nat × List (Nat × Nat)) → List (Nat × Nat)
 | [] => []
 | p :: r => bif Nat.beq p.1 d then p.2 else lookSp d r
def spOf (l : List (Nat × List (Nat × Nat))) (d c : Nat) : Nat := match lkN c (lookSp d l) with
 | some i => i
 | none => c
def lookF (k : Nat) : List (Nat × (List AV0 → (List AV0 → Prop) → Prop)) → Option (List AV0 → (List AV0 → Prop) → Prop)
 | [] => none
 | p :: r => bif Nat.beq p.1 k then some p.2 else lookF k r
def callOf (l : List (Nat × (List AV0 → (List AV0 → Prop) → Prop))) (f : FuncId) (args : List AV0) (J : List AV0 → Prop) : Prop := match lookF f l with
 | some F => F args J
 | none => False
theorem lookF_mem : ∀ {l : List (Nat × (List AV0 → (List AV0 → Prop) → Prop))} {f : Nat} {F}, lookF f l = some F → (f, F) ∈ l
 | [], _, _, h => by cases h
 | p :: r, f, F, h => by
  simp only [lookF] at h
  cases hb : Nat.beq p.1 f with
  | true => rw [hb] at h; cases h; have := Nat.eq_of_beq_eq_true hb; subst this; exact List.mem_cons_self ..
  | false => rw [hb] at h; exact List.mem_cons_of_mem _ (lookF_mem h)
structure Base (P : Program) (tyL : List (Nat × Ty)) (byL : List (Nat × Nat)) (ptrL : List Nat) : Prop where
 ty : ∀ T t, lookTy T tyL = some t → TyP P t T
 bytes : ∀ T e t, lookTy T tyL = some (.sl e t) → t.size ≠ 0 ∧ ∀ i, P.info? e = some i → i.bytes = lookN e byL
 mixed : P.follows .mixedOrders = true
 guard : ∀ T t, lookTy T tyL = some t → t.isAgg = true → P.eqGuardType P.depth T = false
 dep : ∀ T t, lookTy T tyL = some t → t.dep < 10000
 np : ∀ T t, lookTy T tyL = some t → t.np = true
 ptr : ∀ T, inL T ptrL = true → ∃ e, P.underlying T = some (.pointer e)
 ptrS : ∀ T, inL T ptrL = true → ∃ i, P.info? T = some i ∧ i.size = 1
def lookR (k : Nat) : List (Nat × RowF × Nat) → Option (RowF × TypeId)
 | [] => none
 | p :: r => bif Nat.beq p.1 k then some p.2 else lookR k r
theorem lookR_mem : ∀ {l : List (Nat × RowF × Nat)} {f : Nat} {k : RowF} {e : TypeId}, lookR f l = some (k, e) → (f, k, e) ∈ l
 | [], _, _, _, h => by cases h
 | p :: r, f, k, e, h => by
  simp only [lookR] at h
  cases hb : Nat.beq p.1 f with
  | true =>
   rw [hb] at h
   have h1 := Nat.eq_of_beq_eq_true hb
   have h2 : p.2 = (k, e) := Option.some.inj h
   obtain ⟨p1, p2⟩ := p
   subst h1 h2
   exact List.mem_cons_self ..
  | false => rw [hb] at h; exact List.mem_cons_of_mem _ (lookR_mem h)
def GlbOK (g : Nat) (p : (t : Ty) × List t.D) : Prop := p.1.size = 1 → ∃ cs, (g, cs) ∈ GL.gl ∧ ∀ w ok, RepL (Rep w ok p.1) p.2 cs
def lookG (k : Nat) : List (Nat × ((t : Ty) × List t.D)) → Option ((t : Ty) × List t.D)
 | [] => none
 | p :: r => bif Nat.beq p.1 k then some p.2 else lookG k r
theorem lookG_mem : ∀ {l : List (Nat × ((t : Ty) × List t.D))} {g : Nat} {p : (t : Ty) × List t.D}, lookG g l = some p → (g, p) ∈ l
 | [], _, _, h => by cases h
 | q :: r, g, p, h => by
  simp only [lookG] at h
  cases hb : Nat.beq q.1 g with
  | true =>
   rw [hb] at h
   have h1 := Nat.eq_of_beq_eq_true hb
   have h2 : q.2 = p := Option.some.inj h
   obtain ⟨q1, q2⟩ := q
   subst h1 h2
   exact List.mem_cons_self ..
  | false => rw [hb] at h; exact List.mem_cons_of_mem _ (lookG_mem h)
def lookI (k : Nat) : List (Nat × ItF) → Option ItF
 | [] => none
 | p :: r => bif Nat.beq p.1 k then some p.2 else lookI k r
theorem lookI_mem : ∀ {l : List (Nat × ItF)} {f : Nat} {S}, lookI f l = some S → (f, S) ∈ l
 | [], _, _, h => by cases h
 | p :: r, f, S, h => by
  simp only [lookI] at h
  cases hb : Nat.beq p.1 f with
  | true => rw [hb] at h; cases h; have := Nat.eq_of_beq_eq_true hb; subst this; exact List.mem_cons_self ..
  | false => rw [hb] at h; exact List.mem_cons_of_mem _ (lookI_mem h)
def hnOf (l : List (Nat × List (Nat × Nat))) (d c : Nat) : Nat := match lkN c (lookSp d l) with
 | some i => i
 | none => 0
def lookHz (d : Nat) : List (Nat × List (Nat × Nat × TypeId)) → List (Nat × Nat × TypeId)
 | [] => []
 | p :: r => bif Nat.beq p.1 d then p.2 else lookHz d r
def cxOf (tyL : List (Nat × Ty)) (byL : List (Nat × Nat)) (ptrL borL : List Nat) (rowL : List (Nat × RowF × Nat)) (own : Bool) (l : List (Nat × (List AV0 → (List AV0 → Prop) → Prop))) (nl : List Nat) (wl : List Nat := []) (scL : List (Nat × SFn) := []) (spL : List (Nat × List (Nat × Nat)) := []) (glL : List (Nat × ((t : Ty) × List t.D)) := []) (hzL : List (Nat × List (Nat × Nat × TypeId)) := []) (rtL : List (Nat × Ty) := []) (hnL : List (Nat × List (Nat × Nat)) := []) (pnL : List (Nat × List (Nat × Nat × Nat)) := []) (itL : List (Nat × ItF) := []) : Cx :=
 { it := fun f => lookI f itL, pn := fun d => lookHz d pnL, hn := hnOf hnL, rty := fun T => lookTy T rtL, hz := fun d => lookHz d hzL, glb := fun g => lookG g glL, scall := fun f => lookS f scL, sp := spOf spL, ty := fun T => lookTy T tyL, bytes := fun T => lookN T byL, call := callOf l, bor := fun f => inL f borL, nilrow := fun s => inL s nl, rowf := fun f => lookR f rowL, own := own, win := fun s => inL s wl, ptrT := fun T => inL T ptrL }
theorem cxOk {P : Program} {tyL : List (Nat × Ty)} {byL : List (Nat × Nat)} {ptrL : List Nat} (hb : Base P tyL byL ptrL) {borL : List Nat} {rowL : List (Nat × RowF × Nat)} (hr : AllC (fun p => RowOK P p.1 p.2.1 p.2.2) rowL) {l : List (Nat × (List AV0 → (List AV0 → Prop) → Prop))} {own : Bool} {nl wl : List Nat} {scL : List (Nat × SFn)} {spL : List (Nat × List (Nat × Nat))} {glL : List (Nat × ((t : Ty) × List t.D))} {hzL : List (Nat × List (Nat × Nat × TypeId))} {rtL : List (Nat × Ty)} {hnL : List (Nat × List (Nat × Nat))} {pnL : List (Nat × List (Nat × Nat × Nat))} {itL : List (Nat × ItF)} (hl : AllC (fun p => Good P p.1 p.2) l) (hs : AllC (fun p => SOK P p.1 p.2) scL := by trivial) (hg : AllC (fun p => GlbOK p.1 p.2) glL := by trivial) (hrt : ∀ T t, lookTy T rtL = some t → TyP P t T := by intro T t h; cases h) (hit : AllC (fun p => ItOK P p.1 p.2) itL := by trivial) : CxOk P (cxOf tyL byL ptrL borL rowL own l nl wl scL spL glL hzL rtL hnL pnL itL) where
 np := hb.np
 rty := hrt
 glb g p h := hg.mem _ (lookG_mem h)
 sfn f S h := hs.mem _ (lookS_mem h)
 it f It h := hit.mem _ (lookI_mem h)
 rowf f k e h := hr.mem _ (lookR_mem h)
 ty := hb.ty
 bytes := hb.bytes
 mixed := hb.mixed
 guard := hb.guard
 dep := hb.dep
 ptr := hb.ptr
 ptrS := hb.ptrS
 fns := by
  intro f args J h
  simp only [cxOf, callOf] at h
  split at h
  · rename_i F hF; exact (hl.mem _ (lookF_mem hF)).fn
  · exact h.elim
 fnok := by
  intro f args J h
  simp only [cxOf, callOf] at h
  split at h
  · rename_i F hF; exact (hl.mem _ (lookF_mem hF)).ok args J h
  · exact h.elim
 det := by
  intro f args J h
  simp only [cxOf, callOf] at h
  split at h
  · rename_i F hF; exact (hl.mem _ (lookF_mem hF)).det args J h
  · exact h.elim
end Go.Iv
