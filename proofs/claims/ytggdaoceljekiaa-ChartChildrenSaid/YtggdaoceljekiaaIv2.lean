/- The abstract machine: what an operation, a list of operations, a piece of code comes to. -/
import Derived.Test.YtggdaoceljekiaaIv1
import Derived.Orders
namespace Go.Iv
set_option linter.unusedVariables false
set_option linter.unusedSimpArgs false

def cstT (t : Ty) (v : Value) : AV0 := match rdv t v with
  | some x => .tv t x
  | none => .un
def opT (st : St) (t : Ty) : Operand → AV
  | .tmp i => st.get i
  | .const v => .v (cstT t v)
  | .global _ => .v .un
  | .func f => .v (.fn f)

def partsF (st : St) (t : Ty) : List (Nat × Operand) → List (Nat × AV)
  | [] => []
  | (f, x) :: r => match fld t f with
    | some (_, ft) => (f, opT st ft x) :: partsF st t r
    | none => (f, .v .un) :: partsF st t r
def partsL (st : St) (t : Ty) : List (Nat × Operand) → List (Nat × AV)
  | [] => []
  | (f, x) :: r => (f, opT st t x) :: partsL st t r
def roP (hp : List (Nat × Ob)) : List (Nat × AV) → List (Nat × AV0)
  | [] => []
  | (f, a) :: r => (f, a.ro hp) :: roP hp r
def idsP : List (Nat × AV) → List Nat
  | [] => []
  | (_, a) :: r => a.ids ++ idsP r

def boxOf (cx : Cx) (st : St) (T : TypeId) (a : AV) (K : (t : Ty) → t.D → Prop) : Prop := match cx.ty T, a.ro st.hp with
  | some t, .tv t' x => match cast? t' t x with
    | some x => K t x
    | none => False
  | _, _ => False

def loadA (cx : Cx) (st : St) (T : TypeId) (a : AV0) (K : AV0 → Prop) : Prop := match cx.ty T, a with
  | some t', .ptr id off => match fnd id st.hp with
    | some (.box _ t x) => match getAt t x off t' with
      | some y => K (.tv t' y)
      | none => False
    | _ => False
  | some t', .rptr t x => match cast? t t' x with
    | some y => K (.tv t' y)
    | none => False
  | some t', .elt id i off => match fnd id st.hp with
    | some (.row _ t xs) => match getAt t (xs.getD i t.zero) off t' with
      | some y => i < List.length xs ∧ K (.tv t' y)
      | none => False
    | _ => False
  | _, _ => False

def storeA (cx : Cx) (st : St) (T : TypeId) (a : AV0) (x : AV0) (K : St → Prop) : Prop := match cx.ty T, a, x with
  | some t', .ptr id off, .tv t'' y => match cast? t'' t' y with
    | some y => match fnd id st.hp with
      | some (.box T' t x) => match setAt t x off t' y with
        | some x' => K { st with hp := ins id (.box T' t x') st.hp }
        | none => False
      | _ => False
    | none => False
  | some t', .elt id i off, .tv t'' y => match cast? t'' t' y with
    | some y => match fnd id st.hp with
      | some (.row e t xs) => match setAt t (xs.getD i t.zero) off t' y with
        | some x' => i < List.length xs ∧ K { st with hp := ins id (.row e t (xs.set i x')) st.hp }
        | none => False
      | _ => False
    | none => False
  | _, _, _ => False

def fieldAddrA (cx : Cx) (st : St) (S : TypeId) (a : AV0) (f : Nat) (K : AV0 → Prop) : Prop := match cx.ty S with
  | some s => match fld s f with
    | some (o, _) => match a with
      | .ptr id off => (match fnd id st.hp with | some (.box _ _ _) => K (.ptr id (off + o)) | _ => False)
      | .elt id i off => (match fnd id st.hp with | some (.row _ _ _) => K (.elt id i (off + o)) | _ => False)
      | .rptr t x => match cast? t s x with
        | some x => match fget s x f with
          | .tv t' y => K (.rptr t' y)
          | _ => False
        | none => False
      | _ => False
    | none => False
  | none => False

def fieldA (cx : Cx) (S : TypeId) (a : AV0) (f : Nat) (K : AV0 → Prop) : Prop := match cx.ty S, a with
  | some s, .tv t x => match cast? t s x with
    | some x => match fget s x f with
      | .tv t' y => K (.tv t' y)
      | _ => False
    | none => False
  | _, _ => False

def indexAddrA (cx : Cx) (st : St) (T : TypeId) (a i : AV0) (K : AV0 → Prop) : Prop := match cx.ty T, a, i with
  | some (.sl e t), .tv (.sl e' t') xs, .tv (.int _) n => match cast? (.sl e' t') (.sl e t) xs with
    | some xs => (0 ≤ (n : Int) ∧ (n : Int) < (List.length xs : Int)) ∧ K (.rptr t (rd (t := t) xs n))
    | none => False
  | some (.sl e t), .row id, .tv (.int _) n => match fnd id st.hp with
    | some (.row e' t' xs) => e' = e ∧ t' = t ∧ (0 ≤ (n : Int) ∧ (n : Int) < (List.length xs : Int)) ∧ K (.elt id (Int.toNat n) 0)
    | _ => False
  | _, _, _ => False

def indexA (cx : Cx) (T : TypeId) (a i : AV0) (K : AV0 → Prop) : Prop := match cx.ty T, a, i with
  | some .str, .tv .str s, .tv (.int _) n => (0 ≤ (n : Int) ∧ (n : Int) < (ByteArray.size s : Int)) ∧ K (.tv (.int .u8) (bt s n))
  | some (.arr m t), .tv (.arr m' t') xs, .tv (.int _) n => match cast? (.arr m' t') (.arr m t) xs with
    | some xs => (0 ≤ (n : Int) ∧ (n : Int) < (m : Int)) ∧ K (.tv t (rd (t := t) xs n))
    | none => False
  | _, _, _ => False

def boundA (d : Int) (a : Option AV0) (K : Int → Prop) : Prop := match a with
  | none => K d
  | some (.tv (.int _) n) => K n
  | some _ => False

def sliceA (cx : Cx) (T : TypeId) (a : AV0) (lo hi : Option AV0) (K : AV0 → Prop) : Prop := match cx.ty T, a with
  | some .str, .tv .str s => boundA (ByteArray.size s : Int) hi fun h => (0 ≤ h ∧ h ≤ (ByteArray.size s : Int)) ∧ boundA 0 lo fun l => (0 ≤ l ∧ l ≤ h) ∧ K (.tv .str (ByteArray.extract s l.toNat h.toNat))
  | some (.sl e t), .tv (.sl e' t') xs => match cast? (.sl e' t') (.sl e t) xs with
    | some xs => boundA (List.length xs : Int) hi fun h => (0 ≤ h ∧ h ≤ (List.length xs : Int)) ∧ boundA 0 lo fun l => (0 ≤ l ∧ l ≤ h) ∧ K (.tv (.sl e t) ((List.take h.toNat xs).drop l.toNat))
    | none => False
  | _, _ => False

def bytesOf (xs : List Int) : ByteArray := ⟨(xs.map fun n => UInt8.ofNat n.toNat).toArray⟩

def convA (cx : Cx) (S T : TypeId) (a : AV0) (K : AV0 → Prop) : Prop := match cx.ty S, cx.ty T, a with
  | some (.int _), some (.int k), .tv (.int _) n => K (.tv (.int k) (k.wrap n))
  | some .str, some .str, .tv .str s => K (.tv .str s)
  | some (.sl _ (.int .u8)), some .str, .tv (.sl _ (.int .u8)) xs => K (.tv .str (bytesOf xs))
  | _, _, _ => False

def maxInt (x y : Int) : Int := if y > x then y else x
def minInt (x y : Int) : Int := if y < x then y else x

/-- append of ys to the row (or to nothing). -/
def appendA (cx : Cx) (st : St) (T : TypeId) (d : Nat) (s : Option AV0) (x : AV0) (K : St → Prop) : Prop := match cx.ty T, x.ro st.hp with
  | some (.sl e t), .tv (.sl e' t') ys => match cast? (.sl e' t') (.sl e t) ys with
    | some ys => match s with
      | some (.row id) => match fnd id st.hp with
        | some (.row e1 t1 xs) => match cast? (.sl e1 t1) (.sl e t) xs with
          | some xs => (List.length xs + List.length ys ≤ 9223372036854775807 ∧ (List.length xs + List.length ys) * cx.bytes e ≤ 140737488355328) ∧ K ({ st with hp := del id st.hp }.mk_ d (.row e t (xs ++ ys)) (.row d))
          | none => False
        | _ => False
      | none => (List.length ys ≤ 9223372036854775807 ∧ (List.length ys) * cx.bytes e ≤ 140737488355328) ∧ K (st.mk_ d (.row e t ys) (.row d))
      | _ => False
    | none => False
  | _, _ => False

def isNil : Operand → Bool
  | .const (.slice none 0 0) => true
  | _ => false

/-- What a callee is handed: a row of the call's own is read, a place in memory is not told. -/
def AV0.arg (hp : List (Nat × Ob)) (a : AV0) : AV0 := match a.ro hp with
  | .ptr _ _ => .un
  | .elt _ _ _ => .un
  | .row _ => .un
  | .own _ _ _ => .un
  | a => a
def AV.arg (hp : List (Nat × Ob)) : AV → AV0
  | .v a => a.arg hp
  | .tup _ => .un

/-- Results with no memory behind them. -/
def flats : List AV0 → Prop → Prop
  | [], k => k
  | .tv t _ :: r, k => match t.flat with
    | true => flats r k
    | false => False
  | _ :: _, _ => False
theorem flats_out : ∀ {l : List AV0} {k : Prop}, flats l k → (∀ r ∈ l, ∃ t x, r = .tv t x ∧ t.flat = true) ∧ k
  | [], k, h => ⟨fun r hr => by simp at hr, h⟩
  | .tv t x :: r, k, h => by
    unfold flats at h
    split at h
    · rename_i ht
      obtain ⟨h1, h2⟩ := flats_out h
      refine ⟨fun q hq => ?_, h2⟩
      rcases List.mem_cons.1 hq with rfl | hq
      · exact ⟨t, x, rfl, ht⟩
      · exact h1 q hq
    · exact h.elim

def callA (cx : Cx) (st : St) (f : FuncId) (as : List AV) (K : St → List AV0 → Prop) : Prop :=
  bif cx.bor f then cx.call f (as.map (AV.arg st.hp)) (fun res => flats res (K st res))
  else cx.call f (as.map (AV.arg st.hp)) (fun res => K (freezes st (as.flatMap AV.ids)) res)

def rowA (cx : Cx) (st : St) (k : RowF) (e : TypeId) (d : Nat) (Ts : List TypeId) (as : List AV) (K : St → Prop) : Prop := match k, Ts, as with
  | .clone, [T], [.v x] => (match cx.ty T, x.ro st.hp with
    | some (.sl e1 t), .tv (.sl e' t') ys => (match cast? (.sl e' t') (.sl e t) ys with
      | some ys => e1 = e ∧ (List.length ys ≤ 9223372036854775807 ∧ (List.length ys) * cx.bytes e ≤ 140737488355328) ∧ K (st.mk_ d (.row e t ys) (.row d))
      | none => False)
    | _, _ => False)
  | .insert, [T, _, _], [.v (.row id), .v (.tv (.int .i64) n), .v (.row id2)] => (match cx.ty T, fnd id st.hp, fnd id2 st.hp with
    | some (.sl e1 t), some (.row ea ta xs), some (.row eb tb ys) => (match cast? (.sl ea ta) (.sl e t) xs, cast? (.sl eb tb) (.sl e t) ys with
      | some xs, some [y] => e1 = e ∧ (bif Nat.beq id id2 then False else ((0 ≤ n ∧ n ≤ (List.length xs : Int)) ∧ (List.length xs + 1 ≤ 9223372036854775800 ∧ (List.length xs + 1) * cx.bytes e ≤ 140737488355328)) ∧ K ({ st with hp := del id st.hp }.mk_ d (.row e t (insL xs n y)) (.row d)))
      | _, _ => False)
    | _, _, _ => False)
  | .delete, [T, _, _], [.v (.row id), .v (.tv (.int .i64) n), .v (.tv (.int .i64) m)] => (match cx.ty T, fnd id st.hp with
    | some (.sl e1 t), some (.row ea ta xs) => (match cast? (.sl ea ta) (.sl e t) xs with
      | some xs => e1 = e ∧ ((0 ≤ n ∧ n < (List.length xs : Int)) ∧ (m ≤ n + 1 ∧ n + 1 ≤ m)) ∧ K ({ st with hp := del id st.hp }.mk_ d (.row e t (delL xs n)) (.row d))
      | none => False)
    | _, _ => False)
  | _, _, _ => False

def argsA (cx : Cx) (st : St) : List Operand → List TypeId → Option (List AV)
  | [], [] => some []
  | x :: xs, T :: Ts => match argsA cx st xs Ts with
    | some l => some (opA cx st T x :: l)
    | none => none
  | _, _ => none

def putRes (st : St) (d : Option Tmp) : List AV0 → St
  | .own e t xs :: r => match d with
    | some d => match r with
      | [] => st.mk_ d (.row e t xs) (.row d)
      | r => st.mkT_ d (.row e t xs) (.row d :: r)
    | none => st
  | [r] => st.put d (.v r)
  | rs => st.put d (.tup rs)

/-- The type of an operation's second operand. -/
def yT (op : BinOp) (T T' : TypeId) : TypeId := match op with | .shl | .shr => T' | _ => T

def Ty.isSt : Ty → Bool
  | .unit | .pair _ _ => true
  | _ => false

def one (a : AV) (K : AV0 → Prop) : Prop := match a with
  | .v a => K a
  | .tup _ => False

def aop (cx : Cx) (o : Oper) (K : St → Prop) (st : St) : Prop :=
  match o.op with
  | .move x => K (st.put o.dst (opA cx st o.type x))
  | .assign x => match o.dst, x with
    | some d, .tmp i => match st.get i with
      | .v (.row id) => bif Nat.beq id d then K (st.put o.dst (.v (.row id))) else (match fnd id st.hp with
        | some (.row _ _ _) => K ((st.ren id d).put o.dst (.v (.row d)))
        | _ => False)
      | a => K (st.put o.dst a)
    | some d, .const c => bif cx.nilrow d then (match cx.ty o.type, c with
        | some (.sl e t), .slice none 0 0 => K (st.mk_ d (.row e t []) (.row d))
        | _, _ => False)
      else K (st.put o.dst (opA cx st o.type x))
    | _, _ => K (st.put o.dst (opA cx st o.type x))
  | .pick c a b => match opA cx st 0 c with
    | .v (.tv .bool c) => br c (K (st.put o.dst (opA cx st o.type a))) (K (st.put o.dst (opA cx st o.type b)))
    | _ => False
  | .alloc T => match o.dst, cx.ty T with
    | some d, some t => K (st.mk_ d (.box T t t.zero) (.ptr d 0))
    | _, _ => False
  | .box T x => match o.dst with
    | some d => boxOf cx st T (opA cx st T x) fun t y => K ((freezes st (opA cx st T x).ids).mk_ d (.box T t y) (.ptr d 0))
    | none => False
  | .build T parts => match cx.ty T with
    | some t => bif t.isSt then (match fills t t.zero (roP st.hp (partsF st t parts.toList)) with
      | some x => K ((freezes st (idsP (partsF st t parts.toList))).put o.dst (.v (.tv t x)))
      | none => False) else False
    | none => False
  | .buildSlice T n parts => match o.dst, cx.ty T with
    | some d, some (.sl e t) => match fillL t (List.replicate n t.zero) (roP st.hp (partsL st t parts.toList)) with
      | some xs => n * t.size ≤ 16777216 ∧ K ((freezes st (idsP (partsL st t parts.toList))).mk_ d (.row e t xs) (.row d))
      | none => False
    | _, _ => False
  | .load T a => one (opA cx st 0 a) fun a => loadA cx st T a fun v => K (st.put o.dst (.v v))
  | .store T a x => one (opA cx st 0 a) fun a => storeA cx (freezes st (opA cx st T x).ids) T a ((opA cx st T x).ro st.hp) fun st => K (st.put o.dst (.v .un))
  | .nilCheck x => one (opA cx st 0 x) fun a => match a with
    | .rptr t y => K (st.put o.dst (.v (.rptr t y)))
    | .ptr i f => (match fnd i st.hp with | some (.box _ _ _) => K (st.put o.dst (.v (.ptr i f))) | _ => False)
    | .fn f => K (st.put o.dst (.v (.fn f)))
    | _ => False
  | .binOp op T x y T' => one (opA cx st T x) fun x => one (opA cx st (yT op T T') y) fun y => binA cx T op (x.ro st.hp) (y.ro st.hp) fun v => K (st.put o.dst (.v v))
  | .unOp op T x => one (opA cx st T x) fun x => unA op x fun v => K (st.put o.dst (.v v))
  | .convert S T x => one (opA cx st S x) fun x => convA cx S T (x.ro st.hp) fun v => K (st.put o.dst (.v v))
  | .makeSlice T l c => match o.dst, cx.ty T, opA cx st 0 l, opA cx st 0 c with
    | some d, some (.sl e t), .v (.tv (.int _) n), .v (.tv (.int _) m) => (n = m ∧ 0 ≤ (n : Int) ∧ (n : Int) ≤ 9223372036854775807 ∧ (n : Int).toNat * cx.bytes e ≤ 140737488355328) ∧ K (st.mk_ d (.row e t (List.replicate (n : Int).toNat t.zero)) (.row d))
    | _, _, _, _ => False
  | .slice T x lo hi none => one (opA cx st T x) fun x => sliceA cx T (x.ro st.hp) (lo.map fun l => (opA cx st 0 l).ro st.hp) (hi.map fun h => (opA cx st 0 h).ro st.hp) fun v => K ((freezes st x.ids).put o.dst (.v v))
  | .fieldAddr S x f => one (opA cx st 0 x) fun a => fieldAddrA cx st S a f fun v => K (st.put o.dst (.v v))
  | .field S x f => one (opA cx st S x) fun a => fieldA cx S a f fun v => K (st.put o.dst (.v v))
  | .indexAddr T x i => one (opA cx st T x) fun x => one (opA cx st 0 i) fun i => indexAddrA cx st T x i fun v => K (st.put o.dst (.v v))
  | .index T x i => one (opA cx st T x) fun x => one (opA cx st 0 i) fun i => indexA cx T x i fun v => K (st.put o.dst (.v v))
  | .extract t i => match opA cx st 0 t with
    | .tup l => (match l[i]? with
      | some x => K (st.put o.dst (.v x))
      | none => False)
    | _ => False
  | .call c => match c.callee with
    | .builtin .len => (match c.args.toList, c.argTypes.toList with
      | [x], [T] => one (opA cx st T x) fun x => lenA cx T x st.hp fun v => K (st.put o.dst (.v v))
      | _, _ => False)
    | .builtin .append => (match c.args.toList, c.argTypes.toList, o.dst with
      | [s, x], [T, T'], some d => T' = T ∧ one (opA cx st T x) fun x => (match isNil s with
        | true => appendA cx st T d none x K
        | false => one (opA cx st T s) fun s => appendA cx st T d (some s) x K)
      | _, _, _ => False)
    | .builtin .max => (match c.args.toList with
      | [x, y] => one (opA cx st o.type x) fun x => one (opA cx st o.type y) fun y => (match x, y with
        | .tv (.int k) x, .tv (.int k') y => k = k' ∧ K (st.put o.dst (.v (.tv (.int k) (maxInt x y))))
        | _, _ => False)
      | _ => False)
    | .builtin .min => (match c.args.toList with
      | [x, y] => one (opA cx st o.type x) fun x => one (opA cx st o.type y) fun y => (match x, y with
        | .tv (.int k) x, .tv (.int k') y => k = k' ∧ K (st.put o.dst (.v (.tv (.int k) (minInt x y))))
        | _, _ => False)
      | _ => False)
    | .value f => (match opA cx st 0 f with
      | .v (.fn f) => (match argsA cx st c.args.toList c.argTypes.toList with
        | some as => (match cx.rowf f, o.dst with
          | none, _ => callA cx st f as fun st res => K (putRes st o.dst res)
          | some (k, e), some d => rowA cx st k e d c.argTypes.toList as K
          | some _, none => False)
        | none => False)
      | _ => False)
    | _ => False
  | _ => False

/-- A test of a slot: what it is holds in each way. -/
def split (st : St) (t : Tmp) (b : Bool) (x y : St → Prop) : Prop := br b (x (st.put (some t) (.v (.tv .bool true)))) (y (st.put (some t) (.v (.tv .bool false))))

/-- The same, the state written out first. -/
def frcV (k : AV → Prop) : AV → Prop
  | .v (.tv t x) => k (.v (.tv t x))
  | .v (.row i) => k (.v (.row i))
  | .v (.ptr i o) => k (.v (.ptr i o))
  | .v (.rptr t x) => k (.v (.rptr t x))
  | .v (.elt i j o) => k (.v (.elt i j o))
  | .v (.fn f) => k (.v (.fn f))
  | .v (.own e t x) => k (.v (.own e t x))
  | .v .un => k (.v .un)
  | .tup l => k (.tup l)
def frcE : List AV → (List AV → Prop) → Prop
  | [], k => k []
  | x :: r, k => frcV (fun x => frcE r fun l => k (x :: l)) x
def frcO (k : Ob → Prop) : Ob → Prop
  | .box T t x => k (.box T t x)
  | .row e t xs => k (.row e t xs)
def frcH : List (Nat × Ob) → (List (Nat × Ob) → Prop) → Prop
  | [], k => k []
  | (i, o) :: r, k => frcO (fun o => frcH r fun l => k ((i, o) :: l)) o
def frc (K : St → Prop) : St → Prop
  | ⟨e, h⟩ => frcE e fun e => frcH h fun h => K ⟨e, h⟩
theorem frcV_eq (k : AV → Prop) (x : AV) : frcV k x = k x := by
  cases x with
  | v a => cases a <;> rfl
  | tup l => rfl
theorem frcE_eq : ∀ (e : List AV) (k : List AV → Prop), frcE e k = k e
  | [], k => rfl
  | x :: r, k => by
    unfold frcE
    rw [frcV_eq, frcE_eq r]
theorem frcO_eq (k : Ob → Prop) (x : Ob) : frcO k x = k x := by cases x <;> rfl
theorem frcH_eq : ∀ (e : List (Nat × Ob)) (k : List (Nat × Ob) → Prop), frcH e k = k e
  | [], k => rfl
  | (i, o) :: r, k => by
    unfold frcH
    rw [frcO_eq, frcH_eq r]
theorem frc_eq (K : St → Prop) (st : St) : frc K st = K st := by
  obtain ⟨e, h⟩ := st
  show (frcE e fun e => frcH h fun h => K ⟨e, h⟩) = _
  rw [frcE_eq, frcH_eq]

def aops (cx : Cx) (ops : Array Oper) (K : St → Prop) : List Oper → St → Prop
  | [], st => frc K st
  | o :: r, st => frc (fun st => match o.guard with
    | none => aop cx o (aops cx ops K r) st
    | some (j, want) => match (ops[j]?).bind (·.dst) with
      | some t => match st.get t with
        | .v (.tv .bool b) => bif want then split st t b (aop cx o (aops cx ops K r)) (fun st => aops cx ops K r (st.put o.dst (.tup [])))
          else split st t b (fun st => aops cx ops K r (st.put o.dst (.tup []))) (aop cx o (aops cx ops K r))
        | .tup [] => aops cx ops K r (st.put o.dst (.tup []))
        | _ => False
      | none => False) st
theorem aops_nil {cx : Cx} {ops : Array Oper} {K : St → Prop} {st : St} : aops cx ops K [] st ↔ K st := by
  rw [← frc_eq K st]; exact Iff.rfl

/-! A region whose order is open: every order that its edges allow; what may come up at any time comes up first. -/
def needsOf (o : Oper) : List Nat := (o.after.toList.filter (fun e => Region.binds .any e)).map (fun e => e.on)
def readyL (ops : Array Oper) (l : List Bool) : List Nat := (List.range ops.size).filter fun i => !l.getD i true && match ops[i]? with
  | some o => (needsOf o).all (fun j => l.getD j false)
  | none => false
def quietOp (o : Oper) : Bool := match o.op with
  | .move _ | .pick _ _ _ | .extract _ _ | .unOp _ _ _ | .fieldAddr _ _ _ | .indexAddr _ _ _ | .binOp _ _ _ _ _ => true
  | .call c => (match c.callee with | .builtin .len => true | _ => false)
  | _ => false
def freeL (ops : Array Oper) (l : List Bool) (i : Nat) (oi : Oper) : Bool := (List.range ops.size).all fun j => Nat.beq j i || l.getD j true || match ops[j]? with
  | some oj => (needsOf oj).contains i || oi.apart ops oj
  | none => true
def pickQ (ops : Array Oper) (l : List Bool) : List Nat → Option Nat
  | [] => none
  | i :: r => match ops[i]? with
    | some o => bif quietOp o && freeL ops l i o then some i else pickQ ops l r
    | none => pickQ ops l r
def allI (p : Nat → Prop) : List Nat → Prop
  | [] => True
  | [i] => p i
  | i :: r => p i ∧ allI p r
def adraw (cx : Cx) (ops : Array Oper) : Nat → List Bool → (St → Prop) → St → Prop
  | 0, l, K, st => (readyL ops l).isEmpty = true ∧ K st
  | n + 1, l, K, st => match readyL ops l with
    | [] => K st
    | i :: r => match pickQ ops l (i :: r) with
      | some j => (match ops[j]? with | some o => aops cx ops (adraw cx ops n (l.set j true) K) [o] st | none => False)
      | none => allI (fun j => match ops[j]? with | some o => aops cx ops (adraw cx ops n (l.set j true) K) [o] st | none => False) (i :: r)

inductive AE where
  | normal
  | exit (id : Nat)
  | ret

/-- It is known less of st1. -/
structure Weak (st1 st : St) : Prop where
  len : st1.env.length = st.env.length
  env : ∀ i, st1.get i = .v .un ∨ st1.get i = st.get i
  hp : ∀ i o, fnd i st1.hp = some o → fnd i st.hp = some o

def aloop (body : (AE → St → Prop) → St → Prop) : Nat → (AE → St → Prop) → St → Prop
  | 0, _, _ => False
  | n + 1, Q, st => ∃ st1, Weak st1 st ∧ body (fun e s => match e with
    | .normal => aloop body n Q s
    | e => Q e s) st1

/-- The first region of a piece of code. -/
def lkey : Code → Nat
  | .region id _ _ => id
  | .seq x _ => lkey x
  | .cond _ x _ => lkey x
  | .block _ c => lkey c
  | .loop c => lkey c
  | _ => 0

/-- The last region of a piece of code, and one. -/
def rkey : Code → Nat
  | .region id _ _ => 2 * (id + 1)
  | .seq x y => match rkey y with
    | 0 => match rkey x with
      | 0 => 0
      | k => 2 * k + 1
    | k => k
  | .cond _ x y => match rkey x with
    | 0 => match rkey y with
      | 0 => 0
      | k => 2 * k + 1
    | k => 2 * k + 1
  | .block _ c => match rkey c with
    | 0 => 0
    | k => 2 * k + 1
  | .loop c => match rkey c with
    | 0 => 0
    | k => 2 * k + 1
  | _ => 0

/-- What stands for loops, and for what comes behind a piece of code, by their first regions. -/
structure Cuts where
  lp : List (Nat × (St → (AE → St → Prop) → Prop))
  jn : List (Nat × (St → (AE → St → Prop) → Prop))

def look (k : Nat) : List (Nat × (St → (AE → St → Prop) → Prop)) → Option (St → (AE → St → Prop) → Prop)
  | [] => none
  | p :: r => bif Nat.beq p.1 k then some p.2 else look k r

/-- What comes behind the first of two. -/
def seqK (rest : (AE → St → Prop) → St → Prop) (Q : AE → St → Prop) : AE → St → Prop := fun e s => match e with
  | .normal => rest Q s
  | e => Q e s
def blkK (id : Nat) (Q : AE → St → Prop) : AE → St → Prop := fun e s => match e with
  | .exit i => bif Nat.beq i id then Q .normal s else Q (.exit i) s
  | e => Q e s
/-- A join, or what stands there. -/
def joined (S : Option (St → (AE → St → Prop) → Prop)) (U : AE → St → Prop) (rest : (AE → St → Prop) → St → Prop) (Q : AE → St → Prop) (s : St) : Prop := match S with
  | some S => S s U
  | none => rest Q s

/-- What a piece of code comes to; U: what is to hold where the loop's body, or the function, ends. -/
def awp (cx : Cx) (ct : Cuts) : Code → (U : AE → St → Prop) → (AE → St → Prop) → St → Prop
  | .skip, _, Q, st => Q .normal st
  | .region _ ops false, _, Q, st => aops cx ops (Q .normal) ops.toList st
  | .region _ ops true, _, Q, st => Region.noSelect ops = true ∧ adraw cx ops ops.size (List.replicate ops.size false) (Q .normal) st
  | .seq x y, U, Q, st => awp cx ct x U (seqK (joined (look (rkey x) ct.jn) U (awp cx ct y U)) Q) st
  | .cond c x y, U, Q, st => match c with
    | .tmp t => (match st.get t with
      | .v (.tv .bool b) => split st t b (awp cx ct x U Q) (awp cx ct y U Q)
      | _ => False)
    | _ => False
  | .block id c, U, Q, st => awp cx ct c U (blkK id Q) st
  | .loop c, _, Q, st => match look (lkey c) ct.lp with
    | some S => S st Q
    | none => ∃ n, aloop (fun Q => awp cx ct c Q Q) n Q st
  | .exit id, _, Q, st => Q (.exit id) st
  | .ret, _, Q, st => Q .ret st
  | _, _, _, _ => False

/-- The loops of a piece of code. -/
def lps : Code → List Code
  | .seq x y => lps x ++ lps y
  | .cond _ x y => lps x ++ lps y
  | .block _ c => lps c
  | .loop c => c :: lps c
  | _ => []
/-- A place behind something: its key, what stands there, how it goes on from there to the end. -/
structure Jn where
  key : Nat
  code : Code
  cont : (AE → St → Prop) → AE → St → Prop
def jns (cx : Cx) (ct : Cuts) : Code → ((AE → St → Prop) → AE → St → Prop) → List Jn
  | .seq x y, C => jns cx ct x (fun U => seqK (joined (look (rkey x) ct.jn) U (awp cx ct y U)) (C U)) ++ (⟨rkey x, y, C⟩ :: jns cx ct y C)
  | .cond _ x y, C => jns cx ct x C ++ jns cx ct y C
  | .block id c, C => jns cx ct c (fun U => blkK id (C U))
  | .loop c, _ => jns cx ct c (fun U => U)
  | _, _ => []
def LpOk (cx : Cx) (ct : Cuts) (c : Code) : Prop := ∀ S, look (lkey c) ct.lp = some S → ∀ st Q, S st Q → ∃ n, aloop (fun Q => awp cx ct c Q Q) n Q st
def JnOk (cx : Cx) (ct : Cuts) (p : Jn) : Prop := ∀ S, look p.key ct.jn = some S → ∀ st U, S st U → ∃ st1, Weak st1 st ∧ awp cx ct p.code U (p.cont U) st1

/-- What the caller owns from now on. -/
def ownRes (st : St) (a : AV0) (K : AV0 → Prop) : Prop := match a with
  | .row id => (match fnd id st.hp with
    | some (.row e t xs) => K (.own e t xs)
    | _ => False)
  | .tv t x => K (.tv t x)
  | _ => False
def resA (cx : Cx) (st : St) : ResultVar → (AV0 → Prop) → Prop
  | .tmp t, K => one (st.get t) fun a => bif cx.own then ownRes st a K else K (a.arg st.hp)
  | .cell a T, K => one (st.get a) fun a => loadA cx st T a K
def ressA (cx : Cx) (st : St) : List ResultVar → (List AV0 → Prop) → Prop
  | [], K => K []
  | r :: rs, K => resA cx st r fun a => ressA cx st rs fun l => K (a :: l)

def initA (n : Nat) (args : List AV0) : St := { env := args.map AV.v ++ List.replicate (n - args.length) (.v .un), hp := [] }

/-- What is to hold where a function's body ends. -/
def endK (cx : Cx) (fn : Func) (K : List AV0 → Prop) : AE → St → Prop := fun e st => match e with
  | .exit _ => False
  | _ => ressA cx st fn.results.toList K
/-- What a function's body comes to. -/
def fnA (cx : Cx) (ct : Cuts) (fn : Func) (args : List AV0) (K : List AV0 → Prop) : Prop := match fn.body with
  | some c => awp cx ct c (endK cx fn K) (endK cx fn K) (initA fn.ntmps args)
  | none => False

/-- What stands for loops, and for what comes behind, is right. -/
def FnCuts (cx : Cx) (ct : Cuts) (fn : Func) : Prop := match fn.body with
  | some c => (∀ x ∈ lps c, LpOk cx ct x) ∧ ∀ x ∈ jns cx ct c (fun U => U), JnOk cx ct x
  | none => True

end Go.Iv
