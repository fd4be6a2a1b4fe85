/- The abstract machine: states of plain typed data, operations on them, and what must hold for a run to end well. -/
import Derived.Test.YtdniiaomhojlhaaIv0
namespace Go.Iv
set_option linter.unusedVariables false
set_option linter.unusedSimpArgs false

inductive AV0 where
  | tv (t : Ty) (x : t.D)          -- what is only read
  | row (id : Nat)                 -- a slice of the call's own, whole
  | ptr (id off : Nat)             -- a place in a variable's box
  | rptr (t : Ty) (x : t.D)        -- the address of memory that is only read
  | elt (id i off : Nat)           -- a place in a row of the call's own
  | fn (f : FuncId)
  | own (e : TypeId) (t : Ty) (xs : List t.D)   -- a result that is the caller's own from now on
  | un                             -- nothing is known

inductive AV where
  | v (a : AV0)
  | tup (l : List AV0)

inductive Ob where
  | box (T : TypeId) (t : Ty) (x : t.D)
  | row (e : TypeId) (t : Ty) (xs : List t.D)

structure St where
  env : List (Nat × AV)    -- what is told of slots
  hp : List (Nat × Ob)
  n : Nat                  -- how many slots there are

/-- A function of the library that makes a row of rows: what it does. -/
inductive RowF where
  | clone
  | insert
  | delete

structure Cx where
  ty : TypeId → Option Ty
  bytes : TypeId → Nat
  call : FuncId → List AV0 → (List AV0 → Prop) → Prop
  bor : FuncId → Bool
  nilrow : Nat → Bool
  rowf : FuncId → Option (RowF × TypeId)
  own : Bool

/-- What is decided by looking. -/
def stat (b : Bool) (X : Prop) : Prop := match b with | true => X | false => False
theorem stat_out {b : Bool} {X : Prop} (h : stat b X) : b = true ∧ X := by cases b; exact h.elim; exact ⟨rfl, h⟩
theorem stat_nat {a b : Nat} {X : Prop} (h : stat (Nat.beq a b) X) : a = b ∧ X := ⟨Nat.eq_of_beq_eq_true (stat_out h).1, (stat_out h).2⟩
theorem stat_dec {p : Prop} [Decidable p] {X : Prop} (h : stat (decide p) X) : p ∧ X := ⟨of_decide_eq_true (stat_out h).1, (stat_out h).2⟩

def br (b : Bool) (x y : Prop) : Prop := match b with | true => x | false => y

/-- Is it in a list? -/
def inL (k : Nat) : List Nat → Bool
  | [] => false
  | p :: r => bif Nat.beq p k then true else inL k r
def lookTy (k : Nat) : List (Nat × Ty) → Option Ty
  | [] => none
  | p :: r => bif Nat.beq p.1 k then some p.2 else lookTy k r
def lookN (k : Nat) : List (Nat × Nat) → Nat
  | [] => 0
  | p :: r => bif Nat.beq p.1 k then p.2 else lookN k r

def fnd (id : Nat) : List (Nat × Ob) → Option Ob
  | [] => none
  | p :: r => bif Nat.beq p.1 id then some p.2 else fnd id r
def ins (id : Nat) (o : Ob) : List (Nat × Ob) → List (Nat × Ob)
  | [] => [(id, o)]
  | p :: r => bif Nat.blt id p.1 then (id, o) :: p :: r else bif Nat.beq p.1 id then (id, o) :: r else p :: ins id o r
def del (id : Nat) : List (Nat × Ob) → List (Nat × Ob)
  | [] => []
  | p :: r => bif Nat.beq p.1 id then del id r else p :: del id r

def AV0.kill (id : Nat) : AV0 → AV0
  | .row i => bif Nat.beq i id then .un else .row i
  | .ptr i o => bif Nat.beq i id then .un else .ptr i o
  | .elt i j o => bif Nat.beq i id then .un else .elt i j o
  | a => a
def AV.kill (id : Nat) : AV → AV
  | .v a => .v (a.kill id)
  | .tup l => .tup (l.map (AV0.kill id))

def AV0.melt (id : Nat) (e : TypeId) (t : Ty) (xs : List t.D) : AV0 → AV0
  | .row i => bif Nat.beq i id then .tv (.sl e t) xs else .row i
  | a => a
def AV.melt (id : Nat) (e : TypeId) (t : Ty) (xs : List t.D) : AV → AV
  | .v a => .v (a.melt id e t xs)
  | .tup l => .tup (l.map (AV0.melt id e t xs))
def AV0.ren (id id' : Nat) : AV0 → AV0
  | .row i => bif Nat.beq i id then .row id' else .row i
  | .ptr i o => bif Nat.beq i id then .ptr id' o else .ptr i o
  | .elt i j o => bif Nat.beq i id then .elt id' j o else .elt i j o
  | a => a
def AV.ren (id id' : Nat) : AV → AV
  | .v a => .v (a.ren id id')
  | .tup l => .tup (l.map (AV0.ren id id'))

def fndE (i : Nat) : List (Nat × AV) → AV
  | [] => .v .un
  | p :: r => bif Nat.beq p.1 i then p.2 else fndE i r
def insE (d : Nat) (a : AV) : List (Nat × AV) → List (Nat × AV)
  | [] => [(d, a)]
  | p :: r => bif Nat.beq p.1 d then (d, a) :: r else p :: insE d a r
def setE (n d : Nat) (a : AV) (l : List (Nat × AV)) : List (Nat × AV) := bif Nat.blt d n then insE d a l else l
def mapE (f : AV → AV) : List (Nat × AV) → List (Nat × AV)
  | [] => []
  | p :: r => (p.1, f p.2) :: mapE f r
namespace St
def get (st : St) (i : Nat) : AV := fndE i st.env
def put (st : St) (d : Option Tmp) (a : AV) : St := match d with | some d => { st with env := setE st.n d a st.env } | none => st
/-- A new object, named by the slot. -/
def mk_ (st : St) (d : Nat) (o : Ob) (a : AV0) : St := { env := setE st.n d (.v a) (mapE (AV.kill d) st.env), hp := ins d o st.hp, n := st.n }
/-- Likewise, the object being a part of what the slot holds. -/
def mkT_ (st : St) (d : Nat) (o : Ob) (l : List AV0) : St := { env := setE st.n d (.tup l) (mapE (AV.kill d) st.env), hp := ins d o st.hp, n := st.n }
/-- A row of the call's own is only read from now on. -/
def freeze (st : St) (id : Nat) : St := match fnd id st.hp with
  | some (.row e t xs) => { env := mapE (AV.melt id e t xs) st.env, hp := del id st.hp, n := st.n }
  | _ => st
/-- The object id is named d. -/
def ren (st : St) (id d : Nat) : St := match fnd id st.hp with
  | some o => { env := mapE (AV.ren id d) (mapE (AV.kill d) st.env), hp := ins d o (del id st.hp), n := st.n }
  | none => st
end St

def cast? (t t' : Ty) (x : t.D) : Option t'.D := if h : t = t' then some (h ▸ x) else none

def rdInt (k : IntKind) : List Value → Option (Int × List Value)
  | .int k' n :: r => if k = k' then some (n, r) else none
  | _ => none
def rdBool : List Value → Option (Bool × List Value)
  | .bool b :: r => some (b, r)
  | _ => none
def rdStr : List Value → Option (ByteArray × List Value)
  | .string b :: r => some (b, r)
  | _ => none
def rdNil {α : Type} : List Value → Option (List α × List Value)
  | .slice none 0 0 :: r => some ([], r)
  | _ => none
/-- A constant's cells, read. -/
def rdc : (t : Ty) → List Value → Option (t.D × List Value)
  | .int k, r => rdInt k r
  | .bool, r => rdBool r
  | .str, r => rdStr r
  | .unit, r => some ((), r)
  | .pair a b, r => match rdc a r with
    | some (x, r) => match rdc b r with
      | some (y, r) => some ((x, y), r)
      | none => none
    | none => none
  | .sl _ _, r => rdNil r
  | .arr _ _, _ => none
def rdv (t : Ty) (v : Value) : Option t.D := match t.isAgg, v with
  | true, .agg cs => match rdc t cs.toList with | some (x, []) => some x | _ => none
  | true, _ => none
  | false, v => match rdc t [v] with | some (x, []) => some x | _ => none

/-- The whole, if that is asked for. -/
def at0 (t t' : Ty) (x : t.D) : Nat → Option t'.D
  | 0 => cast? t t' x
  | _ + 1 => none
/-- A part, by its type and where its cells begin. -/
def getAt : (t : Ty) → t.D → Nat → (t' : Ty) → Option t'.D
  | .pair a b, x, off, t' => match at0 (.pair a b) t' x off with
    | some y => some y
    | none => match x with | (p, q) => bif Nat.blt off a.size then getAt a p off t' else getAt b q (off - a.size) t'
  | .int k, x, off, t' => at0 (.int k) t' x off
  | .bool, x, off, t' => at0 .bool t' x off
  | .str, x, off, t' => at0 .str t' x off
  | .unit, x, off, t' => at0 .unit t' x off
  | .arr n t, x, off, t' => at0 (.arr n t) t' x off
  | .sl e t, x, off, t' => at0 (.sl e t) t' x off
def setAt : (t : Ty) → t.D → Nat → (t' : Ty) → t'.D → Option t.D
  | .pair a b, x, off, t', y => match at0 t' (.pair a b) y off with
    | some y => some y
    | none => match x with | (p, q) => bif Nat.blt off a.size then (setAt a p off t' y).map (fun z => (z, q)) else (setAt b q (off - a.size) t' y).map (fun z => (p, z))
  | .int k, _, off, t', y => at0 t' (.int k) y off
  | .bool, _, off, t', y => at0 t' .bool y off
  | .str, _, off, t', y => at0 t' .str y off
  | .unit, _, off, t', y => at0 t' .unit y off
  | .arr n t, _, off, t', y => at0 t' (.arr n t) y off
  | .sl e t, _, off, t', y => at0 t' (.sl e t) y off
/-- Field f of a struct: where it begins, its type. -/
def fld : Ty → Nat → Option (Nat × Ty)
  | .pair a _, 0 => some (0, a)
  | .pair a b, f + 1 => match fld b f with | some (o, t) => some (a.size + o, t) | none => none
  | _, _ => none
def fget : (t : Ty) → t.D → Nat → AV0
  | .pair a _, x, 0 => match x with | (p, _) => .tv a p
  | .pair _ b, x, f + 1 => match x with | (_, q) => fget b q f
  | _, _, _ => .un
def fset : (t : Ty) → t.D → Nat → AV0 → Option t.D
  | .pair a _, x, 0, .tv t' y => match x with | (_, q) => (cast? t' a y).map (fun z => (z, q))
  | .pair _ b, x, f + 1, y => match x with | (p, q) => (fset b q f y).map (fun z => (p, z))
  | _, _, _, _ => none

def cst (cx : Cx) (T : TypeId) (v : Value) : AV0 := match cx.ty T with
  | some t => match rdv t v with
    | some x => .tv t x
    | none => .un
  | none => match v with
    | .int k n => .tv (.int k) n
    | .bool b => .tv .bool b
    | _ => .un
def opA (cx : Cx) (st : St) (T : TypeId) : Operand → AV
  | .tmp t => st.get t
  | .const v => .v (cst cx T v)
  | .global _ => .v .un
  | .func f => .v (.fn f)
/-- A row of the call's own as what is only read. -/
def AV0.ro (hp : List (Nat × Ob)) : AV0 → AV0
  | .row id => match fnd id hp with
    | some (.row e t xs) => .tv (.sl e t) xs
    | _ => .un
  | a => a
def AV0.ids : AV0 → List Nat
  | .row id => [id]
  | _ => []
def AV.ro (hp : List (Nat × Ob)) : AV → AV0
  | .v a => a.ro hp
  | .tup _ => .un
def AV.ids : AV → List Nat
  | .v a => a.ids
  | .tup _ => []
def freezes (st : St) : List Nat → St
  | [] => st
  | i :: r => freezes (st.freeze i) r

def sbits (op : BinOp) (k : IntKind) (x y : Int) : Int :=
  let a := BitVec.ofInt k.bits x
  let b := BitVec.ofInt k.bits y
  match op with
  | .and => k.wrap (a &&& b).toNat
  | .or => k.wrap (a ||| b).toNat
  | .xor => k.wrap (a ^^^ b).toNat
  | _ => k.wrap (a &&& ~~~b).toNat

def intOp (op : BinOp) (k : IntKind) (x y : Int) (K : AV0 → Prop) : Prop :=
  match op with
  | .add => K (.tv (.int k) (k.wrap (x + y)))
  | .sub => K (.tv (.int k) (k.wrap (x - y)))
  | .mul => K (.tv (.int k) (k.wrap (x * y)))
  | .quo => y ≠ 0 ∧ K (.tv (.int k) (k.wrap (x.tdiv y)))
  | .rem => y ≠ 0 ∧ K (.tv (.int k) (x.tmod y))
  | .and => K (.tv (.int k) (sbits .and k x y))
  | .or => K (.tv (.int k) (sbits .or k x y))
  | .xor => K (.tv (.int k) (sbits .xor k x y))
  | .andNot => K (.tv (.int k) (sbits .andNot k x y))
  | .eql => K (.tv .bool (x == y))
  | .neq => K (.tv .bool (x != y))
  | .lss => K (.tv .bool (decide (x < y)))
  | .leq => K (.tv .bool (decide (x ≤ y)))
  | .gtr => K (.tv .bool (decide (x > y)))
  | .geq => K (.tv .bool (decide (x ≥ y)))
  | _ => False

def shrI (x y : Int) : Int := x.fdiv (2 ^ y.toNat)
def shlI (k : IntKind) (x y : Int) : Int := k.wrap (x * 2 ^ y.toNat)
def shOp (op : BinOp) (k : IntKind) (x y : Int) (K : AV0 → Prop) : Prop :=
  match op with
  | .shr => (0 ≤ y ∧ y ≤ 8) ∧ K (.tv (.int k) (shrI x y))
  | .shl => (0 ≤ y ∧ y ≤ 8) ∧ K (.tv (.int k) (shlI k x y))
  | _ => False
def isSh : BinOp → Bool
  | .shl | .shr => true
  | _ => false

/-- One more thing in a row; one less. -/
def insL {α : Type} (xs : List α) (n : Int) (y : α) : List α := xs.take n.toNat ++ y :: xs.drop n.toNat
def delL {α : Type} (xs : List α) (n : Int) : List α := xs.take n.toNat ++ xs.drop (n.toNat + 1)

def strOp (op : BinOp) (x y : ByteArray) (K : AV0 → Prop) : Prop :=
  match op with
  | .add => x.size + y.size ≤ 9223372036854775807 ∧ K (.tv .str (x ++ y))
  | .eql => K (.tv .bool (x.toList == y.toList))
  | .neq => K (.tv .bool (!(x.toList == y.toList)))
  | .lss => K (.tv .bool (Op.bytesLess x.toList y.toList))
  | .leq => K (.tv .bool (Op.bytesLess x.toList y.toList || x.toList == y.toList))
  | .gtr => K (.tv .bool (!(Op.bytesLess x.toList y.toList || x.toList == y.toList)))
  | .geq => K (.tv .bool (!(Op.bytesLess x.toList y.toList)))
  | _ => False

/-- No memory behind it, and no arrays: what '==' is asked of. -/
def Ty.eqs : Ty → Bool
  | .int _ | .bool | .str | .unit => true
  | .pair a b => a.eqs && b.eqs
  | _ => false
/-- '==' of what has no memory behind it. -/
def eqT : (t : Ty) → t.D → t.D → Bool
  | .int _, (x : Int), (y : Int) => x == y
  | .bool, (x : Bool), (y : Bool) => x == y
  | .str, (x : ByteArray), (y : ByteArray) => x == y
  | .unit, _, _ => true
  | .pair a b, x, y => eqT a x.1 y.1 && eqT b x.2 y.2
  | .arr _ t, xs, ys => (List.zipWith (eqT t) xs ys).all id
  | .sl _ _, _, _ => false

def binA (cx : Cx) (T : TypeId) (op : BinOp) (x y : AV0) (K : AV0 → Prop) : Prop :=
  match x, y with
  | .tv (.int k) a, .tv (.int k') b => bif isSh op then shOp op k a b K else if k = k' then intOp op k a b K else False
  | .tv .str a, .tv .str b => strOp op a b K
  | .tv t1 a, .tv t2 b => match cx.ty T with
    | some t => stat t.eqs (match cast? t1 t a, cast? t2 t b, op with
      | some a, some b, .eql => K (.tv .bool (eqT t a b))
      | some a, some b, .neq => K (.tv .bool (!(eqT t a b)))
      | _, _, _ => False)
    | none => False
  | _, _ => False

def unA (op : UnOp) (x : AV0) (K : AV0 → Prop) : Prop :=
  match op, x with
  | .not, .tv .bool b => K (.tv .bool (!b))
  | .neg, .tv (.int k) n => K (.tv (.int k) (k.wrap (0 - n)))
  | .xor, .tv (.int k) n => K (.tv (.int k) (sbits .xor k (if k.signed then -1 else k.max) n))
  | _, _ => False

/-- What stands at a place. -/
def ix {α : Type} (z : α) (xs : List α) (i : Int) : α := xs.getD i.toNat z
@[reducible] def ixN {α : Type} (z : α) (xs : List α) (i : Nat) : α := xs.getD i z
def rd {t : Ty} (xs : List t.D) (i : Int) : t.D := ix t.zero xs i
def bt (s : ByteArray) (i : Int) : Int := ((s.data.toList.getD i.toNat 0).toNat : Int)

def bytesOf (xs : List Int) : ByteArray := ⟨(xs.map fun n => UInt8.ofNat n.toNat).toArray⟩
def fills (t : Ty) (x : t.D) : List (Nat × AV0) → Option t.D
  | [] => some x
  | (f, a) :: r => match fset t x f a with
    | some x => fills t x r
    | none => none
def fillL (t : Ty) (xs : List t.D) : List (Nat × AV0) → Option (List t.D)
  | [] => some xs
  | (f, .tv t' y) :: r => match cast? t' t y with
    | some y => bif Nat.blt f xs.length then fillL t (xs.set f y) r else none
    | none => none
  | _ => none

/-- The types of a struct's fields. -/
def ftys (flds : List (Nat × Operand)) (cx : Cx) (st : St) : List (Nat × AV) := flds.map (fun p => (p.1, opA cx st 0 p.2))

def lenA (cx : Cx) (T : TypeId) (x : AV0) (hp : List (Nat × Ob)) (K : AV0 → Prop) : Prop := match cx.ty T, x.ro hp with
  | some .str, .tv .str s => K (.tv (.int .i64) (s.size : Int))
  | some (.sl _ _), .tv (.sl _ _) xs => K (.tv (.int .i64) (List.length xs : Int))
  | some (.arr n _), _ => K (.tv (.int .i64) (n : Int))
  | _, _ => False

end Go.Iv
