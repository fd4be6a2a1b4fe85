/- The abstract machine: states of plain typed data, operations on them, and what must hold for a run to end well. -/
import Derived.Test.YtcpeakceigidpaaDoorKv0
set_option linter.all false
namespace Go.Iv
inductive AV0 where
 | tv (t : Ty) (x : t.D)          -- what is only read
 | row (id : Nat)                 -- a slice of the call's own, whole
 | ptr (id off : Nat)             -- a place in a variable's box
 | rptr (t : Ty) (x : t.D)        -- the address of memory that is only read
 | elt (id i off : Nat)           -- a place in a row of the call's own
 | fn (f : FuncId)
 | nilp                           -- the pointer to nothing
 | sub (id lo n : Nat)            -- so many of a row of the call's own, from one on
 | str (t : Ty) (x : t.D) (rs : List (Nat × Nat))   -- a struct; what stands in its cells that lead on
 | bel (id off i f n : Nat) (t : Ty)   -- a place in an element of an array (n of t) in a variable's box
 | wbx (id off n : Nat) (e : TypeId) (t : Ty)   -- the row that is an array in a variable's box
 | clo (f : FuncId) (t : Ty) (x : t.D)   -- a function with the address of memory that is only read
 | glb (g : Nat)   -- the address of a package's table
 | gel (g i : Nat)   -- a place in it
 | own (e : TypeId) (t : Ty) (xs : List t.D)   -- a result that is the caller's own from now on
 | un                             -- nothing is known
inductive AV where
 | v (a : AV0)
 | tup (l : List AV0)
inductive Ob where
 | box (T : TypeId) (t : Ty) (x : t.D)
 | row (e : TypeId) (t : Ty) (xs : List t.D)
structure St where
 env : List (Nat × AV)    -- what is told of slots
 hp : List (Nat × Ob)
 n : Nat                  -- how many slots there are
 rf : List ((Nat × Nat) × AV0)   -- what stands in variables' cells that lead on
def stat (b : Bool) (X : Prop) : Prop := match b with | true => X | false => False
theorem stat_out {b : Bool} {X : Prop} (h : stat b X) : b = true ∧ X := by cases b; exact h.elim; exact ⟨rfl, h⟩
theorem stat_nat {a b : Nat} {X : Prop} (h : stat (Nat.beq a b) X) : a = b ∧ X := ⟨Nat.eq_of_beq_eq_true (stat_out h).1, (stat_out h).2⟩
theorem stat_dec {p : Prop} [Decidable p] {X : Prop} (h : stat (decide p) X) : p ∧ X := ⟨of_decide_eq_true (stat_out h).1, (stat_out h).2⟩
def br (b : Bool) (x y : Prop) : Prop := match b with | true => x | false => y
def maxInt (x y : Int) : Int := if y > x then y else x
def minInt (x y : Int) : Int := if y < x then y else x
def inL (k : Nat) : List Nat → Bool
 | [] => false
 | p :: r => bif Nat.beq p k then true else inL k r
def lookTy (k : Nat) : List (Nat × Ty) → Option Ty
 | [] => none
 | p :: r => bif Nat.beq p.1 k then some p.2 else lookTy k r
def lookN (k : Nat) : List (Nat × Nat) → Nat
 | [] => 0
 | p :: r => bif Nat.beq p.1 k then p.2 else lookN k r
def fnd (id : Nat) : List (Nat × Ob) → Option Ob
 | [] => none
 | p :: r => bif Nat.beq p.1 id then some p.2 else fnd id r
def ins (id : Nat) (o : Ob) : List (Nat × Ob) → List (Nat × Ob)
 | [] => [(id, o)]
 | p :: r => bif Nat.blt id p.1 then (id, o) :: p :: r else bif Nat.beq p.1 id then (id, o) :: r else p :: ins id o r
def del (id : Nat) : List (Nat × Ob) → List (Nat × Ob)
 | [] => []
 | p :: r => bif Nat.beq p.1 id then del id r else p :: del id r
def cRow (i : Nat) : Nat := 2 * i + 1
def cPtr (i : Nat) : Nat := 2 * i + 2
def cId (c : Nat) : Nat := (c - 1) / 2
def cAV (c : Nat) : AV0 := bif Nat.beq c 0 then .nilp else bif Nat.beq (c % 2) 1 then .row (cId c) else .ptr (cId c) 0
def cOf (id c : Nat) : Bool := !Nat.beq c 0 && Nat.beq (cId c) id
def cAny (id : Nat) : List (Nat × Nat) → Bool
 | [] => false
 | p :: r => bif cOf id p.2 then true else cAny id r
def AV0.kill (id : Nat) : AV0 → AV0
 | .str t x rs => bif cAny id rs then .un else .str t x rs
 | .row i => bif Nat.beq i id then .un else .row i
 | .sub i lo n => bif Nat.beq i id then .un else .sub i lo n
 | .ptr i o => bif Nat.beq i id then .un else .ptr i o
 | .elt i j o => bif Nat.beq i id then .un else .elt i j o
 | .bel i o j f n t => bif Nat.beq i id then .un else .bel i o j f n t
 | .wbx i o n e t => bif Nat.beq i id then .un else .wbx i o n e t
 | a => a
def AV.kill (id : Nat) : AV → AV
 | .v a => .v (a.kill id)
 | .tup l => .tup (l.map (AV0.kill id))
def AV0.melt (id : Nat) (e : TypeId) (t : Ty) (xs : List t.D) : AV0 → AV0
 | .row i => bif Nat.beq i id then .tv (.sl e t) xs else .row i
 | .str t' x rs => bif cAny id rs then .un else .str t' x rs
 | a => a
def AV.melt (id : Nat) (e : TypeId) (t : Ty) (xs : List t.D) : AV → AV
 | .v a => .v (a.melt id e t xs)
 | .tup l => .tup (l.map (AV0.melt id e t xs))
def AV0.ren (id id' : Nat) : AV0 → AV0
 | .str t x rs => bif cAny id rs then .un else .str t x rs
 | .row i => bif Nat.beq i id then .row id' else .row i
 | .sub i lo n => bif Nat.beq i id then .sub id' lo n else .sub i lo n
 | .ptr i o => bif Nat.beq i id then .ptr id' o else .ptr i o
 | .elt i j o => bif Nat.beq i id then .elt id' j o else .elt i j o
 | .bel i o j f n t => bif Nat.beq i id then .bel id' o j f n t else .bel i o j f n t
 | .wbx i o n e t => bif Nat.beq i id then .wbx id' o n e t else .wbx i o n e t
 | a => a
def AV.ren (id id' : Nat) : AV → AV
 | .v a => .v (a.ren id id')
 | .tup l => .tup (l.map (AV0.ren id id'))
def cast? (t t' : Ty) (x : t.D) : Option t'.D := if h : t = t' then some (h ▸ x) else none
def at0 (t t' : Ty) (x : t.D) : Nat → Option t'.D
 | 0 => cast? t t' x
 | _ + 1 => none
def getAt : (t : Ty) → t.D → Nat → (t' : Ty) → Option t'.D
 | .pair a b, x, off, t' => match at0 (.pair a b) t' x off with
  | some y => some y
  | none => match x with | (p, q) => bif Nat.blt off a.size then getAt a p off t' else getAt b q (off - a.size) t'
 | .int k, x, off, t' => at0 (.int k) t' x off
 | .bool, x, off, t' => at0 .bool t' x off
 | .str, x, off, t' => at0 .str t' x off
 | .unit, x, off, t' => at0 .unit t' x off
 | .arr n t, x, off, t' => at0 (.arr n t) t' x off
 | .sl e t, x, off, t' => at0 (.sl e t) t' x off
 | .hole k, x, off, t' => at0 (.hole k) t' x off
 | .pt t, x, off, t' => at0 (.pt t) t' x off
 | .op t, x, off, t' => at0 (.op t) t' x off
def AV0.meltB (id : Nat) (t : Ty) (x : t.D) : AV0 → AV0
 | .wbx i off n e t' => bif Nat.beq i id then (match getAt t x off (.arr n t') with | some xs => .tv (.sl e t') xs | none => .un) else .wbx i off n e t'
 | .ptr i off => bif Nat.beq i id && Nat.beq off 0 then .rptr t x else AV0.kill id (.ptr i off)
 | a => a.kill id
def AV.meltB (id : Nat) (t : Ty) (x : t.D) : AV → AV
 | .v a => .v (a.meltB id t x)
 | .tup l => .tup (l.map (AV0.meltB id t x))
def fndE (i : Nat) : List (Nat × AV) → AV
 | [] => .v .un
 | p :: r => bif Nat.beq p.1 i then p.2 else fndE i r
def insE (d : Nat) (a : AV) : List (Nat × AV) → List (Nat × AV)
 | [] => [(d, a)]
 | p :: r => bif Nat.beq p.1 d then (d, a) :: r else p :: insE d a r
def setE (n d : Nat) (a : AV) (l : List (Nat × AV)) : List (Nat × AV) := bif Nat.blt d n then insE d a l else l
def mapE (f : AV → AV) : List (Nat × AV) → List (Nat × AV)
 | [] => []
 | p :: r => (p.1, f p.2) :: mapE f r
def fndR (id off : Nat) : List ((Nat × Nat) × AV0) → AV0
 | [] => .un
 | p :: r => bif Nat.beq p.1.1 id then (bif Nat.beq p.1.2 off then p.2 else fndR id off r) else fndR id off r
def mapR (f : AV0 → AV0) : List ((Nat × Nat) × AV0) → List ((Nat × Nat) × AV0)
 | [] => []
 | p :: r => (p.1, f p.2) :: mapR f r
def offR (d : Nat) : List ((Nat × Nat) × AV0) → List ((Nat × Nat) × AV0)
 | [] => []
 | p :: r => bif Nat.beq p.1.1 d then offR d r else p :: offR d r
def keyR (id d : Nat) : List ((Nat × Nat) × AV0) → List ((Nat × Nat) × AV0)
 | [] => []
 | p :: r => ((bif Nat.beq p.1.1 id then d else p.1.1, p.1.2), p.2) :: keyR id d r
namespace St
def get (st : St) (i : Nat) : AV := fndE i st.env
def put (st : St) (d : Option Tmp) (a : AV) : St := match d with | some d => { st with env := setE st.n d a st.env } | none => st
def mk0 (st : St) (d : Nat) (o : Ob) (a : AV0) : St := { env := setE st.n d (.v a) (mapE (AV.kill d) st.env), hp := ins d o st.hp, n := st.n, rf := mapR (AV0.kill d) (offR d st.rf) }
def mk_ (st : St) (d : Nat) (o : Ob) (a : AV0) : St := bif Nat.blt d st.n then st.mk0 d o a else st
def mkT0 (st : St) (d : Nat) (o : Ob) (l : List AV0) : St := { env := setE st.n d (.tup l) (mapE (AV.kill d) st.env), hp := ins d o st.hp, n := st.n, rf := mapR (AV0.kill d) (offR d st.rf) }
def mkT_ (st : St) (d : Nat) (o : Ob) (l : List AV0) : St := bif Nat.blt d st.n then st.mkT0 d o l else st
def freeze (st : St) (id : Nat) : St := match fnd id st.hp with
 | some (.row e t xs) => { env := mapE (AV.melt id e t xs) st.env, hp := del id st.hp, n := st.n, rf := mapR (AV0.melt id e t xs) st.rf }
 | some (.box _ t x) => { env := mapE (AV.meltB id t x) st.env, hp := del id st.hp, n := st.n, rf := mapR (AV0.meltB id t x) (offR id st.rf) }
 | _ => st
def drop (st : St) (id : Nat) : St := { env := mapE (AV.kill id) st.env, hp := del id st.hp, n := st.n, rf := mapR (AV0.kill id) (offR id st.rf) }
def mkN (st : St) (d : Nat) (o : Ob) : St := { env := mapE (AV.kill d) st.env, hp := ins d o st.hp, n := st.n, rf := mapR (AV0.kill d) (offR d st.rf) }
def setR (st : St) (k : Nat × Nat) (v : AV0) : St := { st with rf := (k, v) :: st.rf }
def ren0 (st : St) (id d : Nat) : St := match fnd id st.hp with
 | some o => { env := mapE (AV.ren id d) (mapE (AV.kill d) st.env), hp := ins d o (del id st.hp), n := st.n, rf := mapR (AV0.ren id d) (mapR (AV0.kill d) (keyR id d (offR d st.rf))) }
 | none => st
end St
def freezes (st : St) : List Nat → St
 | [] => st
 | i :: r => freezes (st.freeze i) r
inductive SkV where
 | row (id : Nat)
 | ptr (id off : Nat)
 | fn (f : FuncId)
 | var (t : Ty)
 | rvar (t : Ty)
 | nilp
 | sub (id : Nat)
 | clo (f : FuncId) (t : Ty)
 | wbx (id off n : Nat) (e : TypeId) (t : Ty)
inductive SkO where
 | box (T : TypeId) (t : Ty)
 | row (e : TypeId) (t : Ty)
structure Sk where
 fz : List Nat        -- rows that are only read from there on
 n : Nat              -- how many slots there are
 env : List (Nat × SkV)
 hp : List (Nat × SkO)
 rf : List ((Nat × Nat) × Nat)   -- what leads on, in variables
@[reducible] def SkO.ty : SkO → Ty
 | .box _ t => t
 | .row e t => .sl e t
@[reducible] def hpD : List (Nat × SkO) → Type
 | [] => Unit
 | (_, o) :: r => o.ty.D × hpD r
@[reducible] def envD (R : Type) : List (Nat × SkV) → Type
 | [] => R
 | (_, .var t) :: r => t.D × envD R r
 | (_, .rvar t) :: r => t.D × envD R r
 | (_, .sub _) :: r => (Nat × Nat) × envD R r
 | (_, .clo _ t) :: r => t.D × envD R r
 | _ :: r => envD R r
@[reducible] def Sk.D (k : Sk) : Type := envD (hpD k.hp) k.env
def SkO.mk : (o : SkO) → o.ty.D → Ob
 | .box T t, x => .box T t x
 | .row e t, x => .row e t x
def hpMk : (l : List (Nat × SkO)) → hpD l → List (Nat × Ob)
 | [], _ => []
 | (i, o) :: r, x => (i, o.mk x.1) :: hpMk r x.2
def envMk {R : Type} : (l : List (Nat × SkV)) → envD R l → List (Nat × AV) × R
 | [], x => ([], x)
 | (s, .row i) :: r, x => ((s, .v (.row i)) :: (envMk r x).1, (envMk r x).2)
 | (s, .ptr i o) :: r, x => ((s, .v (.ptr i o)) :: (envMk r x).1, (envMk r x).2)
 | (s, .fn f) :: r, x => ((s, .v (.fn f)) :: (envMk r x).1, (envMk r x).2)
 | (s, .var t) :: r, x => ((s, .v (.tv t x.1)) :: (envMk r x.2).1, (envMk r x.2).2)
 | (s, .rvar t) :: r, x => ((s, .v (.rptr t x.1)) :: (envMk r x.2).1, (envMk r x.2).2)
 | (s, .nilp) :: r, x => ((s, .v .nilp) :: (envMk r x).1, (envMk r x).2)
 | (s, .sub i) :: r, x => ((s, .v (.sub i x.1.1 x.1.2)) :: (envMk r x.2).1, (envMk r x.2).2)
 | (s, .clo f t) :: r, x => ((s, .v (.clo f t x.1)) :: (envMk r x.2).1, (envMk r x.2).2)
 | (s, .wbx i o n e t) :: r, x => ((s, .v (.wbx i o n e t)) :: (envMk r x).1, (envMk r x).2)
def rfMk : List ((Nat × Nat) × Nat) → List ((Nat × Nat) × AV0)
 | [] => []
 | p :: r => (p.1, cAV p.2) :: rfMk r
def Sk.mk' (k : Sk) (x : k.D) : St := ⟨(envMk k.env x).1, hpMk k.hp (envMk k.env x).2, k.n, rfMk k.rf⟩
def SkO.rd : (o : SkO) → Option Ob → Option o.ty.D
 | .box T t, some (.box T' t' x) => bif Nat.beq T T' then cast? t' t x else none
 | .row e t, some (.row e' t' xs) => cast? (.sl e' t') (.sl e t) xs
 | _, _ => none
def hpRd (hp : List (Nat × Ob)) : (l : List (Nat × SkO)) → Option (hpD l)
 | [] => some ()
 | (i, o) :: r => match o.rd (fnd i hp) with
  | some x => (match hpRd hp r with | some y => some (x, y) | none => none)
  | none => none
def vRow (i : Nat) : AV → Bool
 | .v (.row j) => Nat.beq i j
 | _ => false
def vPtr (i o : Nat) : AV → Bool
 | .v (.ptr j p) => Nat.beq i j && Nat.beq o p
 | _ => false
def vFn (f : FuncId) : AV → Bool
 | .v (.fn g) => Nat.beq f g
 | _ => false
def vTv (t : Ty) : AV → Option t.D
 | .v (.tv t' x) => cast? t' t x
 | _ => none
def vNil : AV → Bool
 | .v .nilp => true
 | _ => false
def vSub (i : Nat) : AV → Option (Nat × Nat)
 | .v (.sub j lo n) => bif Nat.beq i j then some (lo, n) else none
 | _ => none
def isC (c : Nat) : AV0 → Bool
 | .nilp => Nat.beq c 0
 | .row i => Nat.beq c (cRow i)
 | .ptr i 0 => Nat.beq c (cPtr i)
 | _ => false
def rfOk (r : List ((Nat × Nat) × AV0)) : List ((Nat × Nat) × Nat) → Bool
 | [] => true
 | p :: l => bif isC p.2 (fndR p.1.1 p.1.2 r) then rfOk r l else false
def vClo (f : FuncId) (t : Ty) : AV → Option t.D
 | .v (.clo f' t' x) => bif Nat.beq f f' then cast? t' t x else none
 | _ => none
def vWbx (i o n : Nat) (e : TypeId) (t : Ty) : AV → Bool
 | .v (.wbx j p m f u) => Nat.beq i j && (Nat.beq o p && (Nat.beq n m && (Nat.beq e f && decide (t = u))))
 | _ => false
def vRp (t : Ty) : AV → Option t.D
 | .v (.rptr t' x) => cast? t' t x
 | _ => none
def envRd {R : Type} (z : R) (e : List (Nat × AV)) : (l : List (Nat × SkV)) → Option (envD R l)
 | [] => some z
 | (s, .row i) :: r => bif vRow i (fndE s e) then envRd z e r else none
 | (s, .ptr i o) :: r => bif vPtr i o (fndE s e) then envRd z e r else none
 | (s, .fn f) :: r => bif vFn f (fndE s e) then envRd z e r else none
 | (s, .var t) :: r => match vTv t (fndE s e) with
  | some x => (match envRd z e r with | some y => some (x, y) | none => none)
  | none => none
 | (s, .rvar t) :: r => match vRp t (fndE s e) with
  | some x => (match envRd z e r with | some y => some (x, y) | none => none)
  | none => none
 | (s, .nilp) :: r => bif vNil (fndE s e) then envRd z e r else none
 | (s, .sub i) :: r => match vSub i (fndE s e) with
  | some x => (match envRd z e r with | some y => some (x, y) | none => none)
  | none => none
 | (s, .clo f t) :: r => match vClo f t (fndE s e) with
  | some x => (match envRd z e r with | some y => some (x, y) | none => none)
  | none => none
 | (s, .wbx i o n a t) :: r => bif vWbx i o n a t (fndE s e) then envRd z e r else none
def Sk.rd (k : Sk) (st : St) : Option k.D := match hpRd (freezes st k.fz).hp k.hp with
 | some z => bif Nat.beq k.n st.n then (bif rfOk (freezes st k.fz).rf k.rf then envRd z (freezes st k.fz).env k.env else none) else none
 | none => none
def Sk.as (k : Sk) (st : St) (F : k.D → Prop) : Prop := match k.rd st with
 | some x => F x
 | none => False
inductive RowF where
 | clone
 | insert
 | delete
def initE : Nat → List AV0 → List (Nat × AV)
 | _, [] => []
 | i, a :: r => (i, .v a) :: initE (i + 1) r
structure SFn where
 inn : Sk
 out : Nat → Sk   -- by which of the results are pointers to nothing
 F : inn.D → ((i : Nat) → (out i).D → Prop) → Prop
structure IoS where
 inn : Sk
 out : Sk
@[reducible] def SFn.io (S : SFn) (i : Nat) : IoS := ⟨S.inn, S.out i⟩
def shp : List AV0 → Nat
 | [] => 0
 | .nilp :: r => 2 * shp r + 1
 | .wbx _ _ _ _ _ :: r => 2 * shp r + 4096
 | _ :: r => 2 * shp r
def lkSk (k : Nat) : List (Nat × Sk) → Sk
 | [] => ⟨[], 1000000, [], [], []⟩
 | p :: r => bif Nat.beq p.1 k then p.2 else lkSk k r
@[reducible] def itD : List (Bool × Ty) → Type
 | [] => Unit
 | p :: r => p.2.D × itD r
def itA : (E : List (Bool × Ty)) → itD E → List AV0
 | [], _ => []
 | (false, t) :: r, x => .tv t x.1 :: itA r x.2
 | (true, t) :: r, x => .rptr t x.1 :: itA r x.2
structure ItF where
 t : Ty
 E : List (Bool × Ty)
 L : t.D → List (itD E)
structure Cx where
 ty : TypeId → Option Ty
 bytes : TypeId → Nat
 call : FuncId → List AV0 → (List AV0 → Prop) → Prop
 bor : FuncId → Bool
 nilrow : Nat → Bool
 rowf : FuncId → Option (RowF × TypeId)
 win : Nat → Bool
 ptrT : TypeId → Bool
 rty : TypeId → Option Ty   -- structs that are only read
 glb : Nat → Option ((t : Ty) × List t.D)   -- tables: cells of one size
 scall : FuncId → Option SFn
 sp : Nat → Nat → Nat   -- where what it makes has its name
 hn : Nat → Nat → Nat   -- the name that a row has that stands in a variable's cell; 0: its own
 hz : Nat → List (Nat × Nat × TypeId)   -- a struct's rows of which nothing is said: where, by which name, of which type
 pn : Nat → List (Nat × Nat × Nat)   -- names that objects get where a slot is assigned: (0, _, n): its own; (k + 1, o, n): what stands in k's cell o
 own : Bool
 it : FuncId → Option ItF   -- iterators
def rdInt (k : IntKind) : List Value → Option (Int × List Value)
 | .int k' n :: r => if k = k' then some (n, r) else none
 | _ => none
def rdBool : List Value → Option (Bool × List Value)
 | .bool b :: r => some (b, r)
 | _ => none
def rdStr : List Value → Option (ByteArray × List Value)
 | .string b :: r => some (b, r)
 | _ => none
def rdNil {α : Type} : List Value → Option (List α × List Value)
 | .slice none 0 0 :: r => some ([], r)
 | _ => none
def rdNilP {α : Type} : List Value → Option (Option α × List Value)
 | .pointer none :: r => some (none, r)
 | _ => none
def rdc : (t : Ty) → List Value → Option (t.D × List Value)
 | .int k, r => rdInt k r
 | .bool, r => rdBool r
 | .str, r => rdStr r
 | .unit, r => some ((), r)
 | .pair a b, r => match rdc a r with
  | some (x, r) => match rdc b r with
   | some (y, r) => some ((x, y), r)
   | none => none
  | none => none
 | .sl _ _, r => rdNil r
 | .hole _, _ => none
 | .arr _ _, _ => none
 | .pt _, _ => none
 | .op _, r => rdNilP r
def rdv (t : Ty) (v : Value) : Option t.D := match t.isAgg, v with
 | true, .agg cs => match rdc t cs.toList with | some (x, []) => some x | _ => none
 | true, _ => none
 | false, v => match rdc t [v] with | some (x, []) => some x | _ => none
def setAt : (t : Ty) → t.D → Nat → (t' : Ty) → t'.D → Option t.D
 | .pair a b, x, off, t', y => match at0 t' (.pair a b) y off with
  | some y => some y
  | none => match x with | (p, q) => bif Nat.blt off a.size then (setAt a p off t' y).map (fun z => (z, q)) else (setAt b q (off - a.size) t' y).map (fun z => (p, z))
 | .int k, _, off, t', y => at0 t' (.int k) y off
 | .bool, _, off, t', y => at0 t' .bool y off
 | .str, _, off, t', y => at0 t' .str y off
 | .unit, _, off, t', y => at0 t' .unit y off
 | .arr n t, _, off, t', y => at0 t' (.arr n t) y off
 | .sl e t, _, off, t', y => at0 t' (.sl e t) y off
 | .hole k, _, off, t', y => at0 t' (.hole k) y off
 | .pt t, _, off, t', y => at0 t' (.pt t) y off
 | .op t, _, off, t', y => at0 t' (.op t) y off
def fld : Ty → Nat → Option (Nat × Ty)
 | .pair a _, 0 => some (0, a)
 | .pair a b, f + 1 => match fld b f with | some (o, t) => some (a.size + o, t) | none => none
 | _, _ => none
def fget : (t : Ty) → t.D → Nat → AV0
 | .pair a _, x, 0 => match x with | (p, _) => .tv a p
 | .pair _ b, x, f + 1 => match x with | (_, q) => fget b q f
 | _, _, _ => .un
def fset : (t : Ty) → t.D → Nat → AV0 → Option t.D
 | .pair a _, x, 0, .tv t' y => match x with | (_, q) => (cast? t' a y).map (fun z => (z, q))
 | .pair _ b, x, f + 1, y => match x with | (p, q) => (fset b q f y).map (fun z => (p, z))
 | _, _, _, _ => none
def cst (cx : Cx) (T : TypeId) (v : Value) : AV0 := match cx.ty T with
 | some t => match rdv t v with
  | some x => .tv t x
  | none => .un
 | none => match v with
  | .int k n => .tv (.int k) n
  | .bool b => .tv .bool b
  | .pointer none => .nilp
  | _ => .un
def opA (cx : Cx) (st : St) (T : TypeId) : Operand → AV
 | .tmp t => st.get t
 | .const v => .v (cst cx T v)
 | .global g => .v (.glb g)
 | .func f => .v (.fn f)
def AV0.ro (hp : List (Nat × Ob)) : AV0 → AV0
 | .row id => match fnd id hp with
  | some (.row e t xs) => .tv (.sl e t) xs
  | _ => .un
 | a => a
def AV0.ids : AV0 → List Nat
 | .row id => [id]
 | _ => []
def AV.ro (hp : List (Nat × Ob)) : AV → AV0
 | .v a => a.ro hp
 | .tup _ => .un
def AV.ids : AV → List Nat
 | .v a => a.ids
 | .tup _ => []
def sbits (op : BinOp) (k : IntKind) (x y : Int) : Int :=
 let a := BitVec.ofInt k.bits x
 let b := BitVec.ofInt k.bits y
 match op with
 | .and => k.wrap (a &&& b).toNat
 | .or => k.wrap (a ||| b).toNat
 | .xor => k.wrap (a ^^^ b).toNat
 | _ => k.wrap (a &&& ~~~b).toNat
def intOp (op : BinOp) (k : IntKind) (x y : Int) (K : AV0 → Prop) : Prop :=
 match op with
 | .add => K (.tv (.int k) (k.wrap (x + y)))
 | .sub => K (.tv (.int k) (k.wrap (x - y)))
 | .mul => K (.tv (.int k) (k.wrap (x * y)))
 | .quo => y ≠ 0 ∧ K (.tv (.int k) (k.wrap (x.tdiv y)))
 | .rem => y ≠ 0 ∧ K (.tv (.int k) (x.tmod y))
 | .and => K (.tv (.int k) (sbits .and k x y))
 | .or => K (.tv (.int k) (sbits .or k x y))
 | .xor => K (.tv (.int k) (sbits .xor k x y))
 | .andNot => K (.tv (.int k) (sbits .andNot k x y))
 | .eql => K (.tv .bool (x == y))
 | .neq => K (.tv .bool (x != y))
 | .lss => K (.tv .bool (decide (x < y)))
 | .leq => K (.tv .bool (decide (x ≤ y)))
 | .gtr => K (.tv .bool (decide (x > y)))
 | .geq => K (.tv .bool (decide (x ≥ y)))
 | _ => False
def shrI (x y : Int) : Int := x.fdiv (2 ^ y.toNat)
def shlI (k : IntKind) (x y : Int) : Int := k.wrap (x * 2 ^ y.toNat)
def shOp (op : BinOp) (k : IntKind) (x y : Int) (K : AV0 → Prop) : Prop :=
 match op with
 | .shr => (0 ≤ y ∧ y ≤ ((k.bits : Nat) : Int)) ∧ K (.tv (.int k) (shrI x y))
 | .shl => (0 ≤ y ∧ y ≤ ((k.bits : Nat) : Int)) ∧ K (.tv (.int k) (shlI k x y))
 | _ => False
def isSh : BinOp → Bool
 | .shl | .shr => true
 | _ => false
def insL {α : Type} (xs : List α) (n : Int) (y : α) : List α := xs.take n.toNat ++ y :: xs.drop n.toNat
def delL {α : Type} (xs : List α) (n : Int) : List α := xs.take n.toNat ++ xs.drop (n.toNat + 1)
def strOp (op : BinOp) (x y : ByteArray) (K : AV0 → Prop) : Prop :=
 match op with
 | .add => x.size + y.size ≤ 9223372036854775807 ∧ K (.tv .str (x ++ y))
 | .eql => K (.tv .bool (x.toList == y.toList))
 | .neq => K (.tv .bool (!(x.toList == y.toList)))
 | .lss => K (.tv .bool (Op.bytesLess x.toList y.toList))
 | .leq => K (.tv .bool (Op.bytesLess x.toList y.toList || x.toList == y.toList))
 | .gtr => K (.tv .bool (!(Op.bytesLess x.toList y.toList || x.toList == y.toList)))
 | .geq => K (.tv .bool (!(Op.bytesLess x.toList y.toList)))
 | _ => False
def Ty.eqs : Ty → Bool
 | .int _ | .bool | .str | .unit => true
 | .pair a b => a.eqs && b.eqs
 | .arr _ t => t.eqs
 | _ => false
def eqT : (t : Ty) → t.D → t.D → Bool
 | .int _, (x : Int), (y : Int) => x == y
 | .bool, (x : Bool), (y : Bool) => x == y
 | .str, (x : ByteArray), (y : ByteArray) => x == y
 | .unit, _, _ => true
 | .pair a b, x, y => eqT a x.1 y.1 && eqT b x.2 y.2
 | .arr _ t, xs, ys => (List.zipWith (eqT t) xs ys).all id
 | .sl _ _, _, _ => false
 | .hole _, _, _ => false
 | .pt _, _, _ => false
 | .op _, _, _ => false
def binA (cx : Cx) (T : TypeId) (op : BinOp) (x y : AV0) (K : AV0 → Prop) : Prop :=
 match x, y with
 | .tv (.int k) a, .tv (.int k') b => bif isSh op then shOp op k a b K else if k = k' then intOp op k a b K else False
 | .tv .str a, .tv .str b => strOp op a b K
 | .tv t1 a, .tv t2 b => match cx.ty T with
  | some t => stat t.eqs (match cast? t1 t a, cast? t2 t b, op with
   | some a, some b, .eql => K (.tv .bool (eqT t a b))
   | some a, some b, .neq => K (.tv .bool (!(eqT t a b)))
   | _, _, _ => False)
  | none => False
 | _, _ => False
def unA (op : UnOp) (x : AV0) (K : AV0 → Prop) : Prop :=
 match op, x with
 | .not, .tv .bool b => K (.tv .bool (!b))
 | .neg, .tv (.int k) n => K (.tv (.int k) (k.wrap (0 - n)))
 | .xor, .tv (.int k) n => K (.tv (.int k) (sbits .xor k (if k.signed then -1 else k.max) n))
 | _, _ => False
def ix {α : Type} (z : α) (xs : List α) (i : Int) : α := xs.getD i.toNat z
@[reducible] def ixN {α : Type} (z : α) (xs : List α) (i : Nat) : α := xs.getD i z
def rd {t : Ty} (xs : List t.D) (i : Int) : t.D := ix t.zero xs i
def bt (s : ByteArray) (i : Int) : Int := ((s.data.toList.getD i.toNat 0).toNat : Int)
def bytesOf (xs : List Int) : ByteArray := ⟨(xs.map fun n => UInt8.ofNat n.toNat).toArray⟩
def fills (t : Ty) (x : t.D) : List (Nat × AV0) → Option t.D
 | [] => some x
 | (f, a) :: r => match fset t x f a with
  | some x => fills t x r
  | none => none
def fillL (t : Ty) (xs : List t.D) : List (Nat × AV0) → Option (List t.D)
 | [] => some xs
 | (f, .tv t' y) :: r => match cast? t' t y with
  | some y => bif Nat.blt f xs.length then fillL t (xs.set f y) r else none
  | none => none
 | _ => none
def lenO (cx : Cx) (T : TypeId) (x : AV0) (K : AV0 → Prop) : Prop := match cx.ty T, x with
 | some .str, .tv .str s => K (.tv (.int .i64) (s.size : Int))
 | some (.sl _ _), .tv (.sl _ _) xs => K (.tv (.int .i64) (List.length xs : Int))
 | some (.arr n _), _ => K (.tv (.int .i64) (n : Int))
 | _, _ => False
def lenS (cx : Cx) (T : TypeId) (o : Option Ob) (n : Nat) (K : AV0 → Prop) : Prop := match cx.ty T, o with
 | some (.sl _ _), some (.row _ _ _) => K (.tv (.int .i64) (n : Int))
 | _, _ => False
def lenW (cx : Cx) (T : TypeId) (o : Option Ob) (n : Nat) (K : AV0 → Prop) : Prop := match cx.ty T, o with
 | some (.sl _ _), some (.box _ _ _) => K (.tv (.int .i64) (n : Int))
 | _, _ => False
def lenA (cx : Cx) (T : TypeId) (x : AV0) (hp : List (Nat × Ob)) (K : AV0 → Prop) : Prop := match x with
 | .sub id _ n => lenS cx T (fnd id hp) n K
 | .wbx id _ n _ _ => lenW cx T (fnd id hp) n K
 | x => lenO cx T (x.ro hp) K
end Go.Iv
