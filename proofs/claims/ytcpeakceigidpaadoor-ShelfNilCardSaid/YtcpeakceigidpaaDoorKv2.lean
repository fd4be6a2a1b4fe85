/- The abstract machine: what an operation, a list of operations, a piece of code comes to. -/
import Derived.Test.YtcpeakceigidpaaDoorKv1
import Derived.Orders
set_option linter.all false
namespace Go.Iv
def cstT (t : Ty) (v : Value) : AV0 := match rdv t v with
 | some x => .tv t x
 | none => .un
def opT (st : St) (t : Ty) : Operand → AV
 | .tmp i => st.get i
 | .const v => .v (cstT t v)
 | .global _ => .v .un
 | .func f => .v (.fn f)
def partsF (st : St) (t : Ty) : List (Nat × Operand) → List (Nat × AV)
 | [] => []
 | (f, x) :: r => match fld t f with
  | some (_, ft) => (f, opT st ft x) :: partsF st t r
  | none => (f, .v .un) :: partsF st t r
def partsL (st : St) (t : Ty) : List (Nat × Operand) → List (Nat × AV)
 | [] => []
 | (f, x) :: r => (f, opT st t x) :: partsL st t r
def roP (hp : List (Nat × Ob)) : List (Nat × AV) → List (Nat × AV0)
 | [] => []
 | (f, a) :: r => (f, a.ro hp) :: roP hp r
def idsP : List (Nat × AV) → List Nat
 | [] => []
 | (_, a) :: r => a.ids ++ idsP r
def boxOf (cx : Cx) (st : St) (T : TypeId) (a : AV) (K : (t : Ty) → t.D → Prop) : Prop := match cx.ty T, a.ro st.hp with
 | some t, .tv t' x => match cast? t' t x with
  | some x => K t x
  | none => False
 | _, _ => False
def refA (st : St) (id off : Nat) (K : AV0 → Prop) : Prop := match fndR id off st.rf with
 | .un => False
 | a => K a
def noR (id off n : Nat) : List ((Nat × Nat) × AV0) → Bool
 | [] => true
 | p :: r => bif Nat.beq p.1.1 id && (!Nat.blt p.1.2 off && Nat.blt p.1.2 (off + n)) then false else noR id off n r
def optP {α : Type} (o : Option α) (n : Prop) (s : α → Prop) : Prop := match o with
 | none => n
 | some x => s x
def optE (t : Ty) (x : t.D) (K : AV0 → Prop) : Prop := match t, x with
 | .op t', y => optP y (K .nilp) (fun z => K (.rptr t' z))
 | _, _ => False
def tabE (t' : Ty) (p : (t : Ty) × List t.D) (K : AV0 → Prop) : Prop := match t' with
 | .arr n t => (match cast? (.sl 0 p.1) (.sl 0 t) p.2 with
  | some xs => List.length xs = n ∧ K (.tv (.arr n t) xs)
  | none => False)
 | _ => False
def loadA (cx : Cx) (st : St) (T : TypeId) (a : AV0) (K : AV0 → Prop) : Prop := match cx.ty T, a with
 | some t', .ptr id off => match fnd id st.hp with
  | some (.box _ t x) => match getAt t x off t' with
   | some y => K (.tv t' y)
   | none => stat (!t'.isAgg) (refA st id off K)
  | _ => False
 | none, .ptr id off => match fnd id st.hp with
  | some (.box _ _ _) => stat (cx.ptrT T) (refA st id off K)
  | _ => False
 | some t', .rptr t x => match cast? t t' x with
  | some y => K (.tv t' y)
  | none => False
 | some t', .bel id off i f n t => match fnd id st.hp with
  | some (.box _ bt x) => (match getAt bt x off (.arr n t) with
   | some xs => (match getAt t (ixN t.zero xs i) f t' with
    | some y => i < n ∧ K (.tv t' y)
    | none => False)
   | none => False)
  | _ => False
 | some t', .elt id i off => match fnd id st.hp with
  | some (.row _ t xs) => match getAt t (ixN t.zero xs i) off t' with
   | some y => i < List.length xs ∧ K (.tv t' y)
   | none => False
  | _ => False
 | some t', .gel g i => match cx.glb g with
  | some p => stat (Nat.beq p.1.size 1) (match cast? p.1 t' (ixN p.1.zero p.2 i) with
   | some y => i < List.length p.2 ∧ K (.tv t' y)
   | none => False)
  | none => False
 | some t', .glb g => match cx.glb g with
  | some p => stat (Nat.beq p.1.size 1) (tabE t' p K)
  | none => False
 | none, .rptr (.pt t) x => stat (cx.ptrT T) (K (.rptr t x))
 | none, .rptr (.op t) x => stat (cx.ptrT T) (optE (.op t) x K)
 | none, .bel id off i f n t => match fnd id st.hp with
  | some (.box _ bt x) => match getAt bt x off (.arr n t) with
   | some xs => i < n ∧ stat (cx.ptrT T && Nat.beq f 0) (optE t (ixN t.zero xs i) K)
   | none => False
  | _ => False
 | _, _ => False
def storeA (cx : Cx) (st : St) (T : TypeId) (a : AV0) (x : AV0) (K : St → Prop) : Prop := match cx.ty T, a, x with
 | some t', .ptr id off, .tv t'' y => match cast? t'' t' y with
  | some y => match fnd id st.hp with
   | some (.box T' t x) => match setAt t x off t' y with
    | some x' => stat (noR id off t'.size st.rf) (K { st with hp := ins id (.box T' t x') st.hp })
    | none => False
   | _ => False
  | none => False
 | some t', .bel id off i f n t, .tv t'' y => match cast? t'' t' y with
  | some y => match fnd id st.hp with
   | some (.box T' bt x) => (match getAt bt x off (.arr n t) with
    | some xs => (match setAt t (ixN t.zero xs i) f t' y with
     | some z => (match setAt bt x off (.arr n t) (List.set xs i z) with
      | some x' => i < n ∧ stat (noR id off (n * t.size) st.rf) (K { st with hp := ins id (.box T' bt x') st.hp })
      | none => False)
     | none => False)
    | none => False)
   | _ => False
  | none => False
 | some t', .elt id i off, .tv t'' y => match cast? t'' t' y with
  | some y => match fnd id st.hp with
   | some (.row e t xs) => match setAt t (ixN t.zero xs i) off t' y with
    | some x' => i < List.length xs ∧ K { st with hp := ins id (.row e t (xs.set i x')) st.hp }
    | none => False
   | _ => False
  | none => False
 | _, _, _ => False
def pubV (st : St) (t : Ty) : AV → Option (St × Option t.D)
 | .v .nilp => some (st, none)
 | .v (.rptr t' y) => (match cast? t' t y with | some y => some (st, some y) | none => none)
 | .v (.ptr id 0) => (match fnd id st.hp with
  | some (.box _ t' y) => (match cast? t' t y with | some y => some (st.freeze id, some y) | none => none)
  | _ => none)
 | _ => none
def isOp : AV → Bool
 | .v (.bel _ _ _ _ _ (.op _)) => true
 | _ => false
def storeO (cx : Cx) (st : St) (T : TypeId) (a v : AV) (K : St → Prop) : Prop := match a with
 | .v (.bel id off i f n (.op t)) => stat (cx.ptrT T && Nat.beq f 0) (match pubV st t v with
  | some (st1, z) => (match fnd id st1.hp with
   | some (.box T' bt x) => (match getAt bt x off (.arr n (.op t)) with
    | some xs => (match setAt bt x off (.arr n (.op t)) (List.set xs i z) with
     | some x' => i < n ∧ stat (noR id off (n * Ty.size (.op t)) st1.rf) (K { st1 with hp := ins id (.box T' bt x') st1.hp })
     | none => False)
    | none => False)
   | _ => False)
  | none => False)
 | _ => False
def holeAt : Ty → Nat → Option HK
 | .pair a b, off => bif Nat.blt off a.size then holeAt a off else holeAt b (off - a.size)
 | .hole k, 0 => some k
 | _, _ => none
def holV (hp : List (Nat × Ob)) : HK → AV → Option AV0
 | .sl, .v (.row j) => (match fnd j hp with | some (.row _ _ _) => some (.row j) | _ => none)
 | _, _ => none
def holQ (cx : Cx) (st : St) (T : TypeId) (a : AV) (v : AV) : Option ((Nat × Nat) × AV0) := match a with
 | .v (.ptr id off) => (match fnd id st.hp, cx.ty T with
  | some (.box _ t _), some (.sl _ _) => (match holeAt t off with
   | some k => (match holV st.hp k v with | some v => some ((id, off), v) | none => none)
   | none => none)
  | _, _ => none)
 | _ => none
def hren (d : Nat) (v : AV0) (st : St) : St := match v with
 | .row j => bif Nat.beq d 0 || (Nat.beq j d || !Nat.blt d st.n) then st else (match fnd j st.hp with
  | some _ => st.ren0 j d
  | none => st)
 | _ => st
def holN (cx : Cx) (st : St) (T : TypeId) (a : AV) (v : Operand) : Option ((Nat × Nat) × TypeId × Ty) := match a, v with
 | .v (.ptr id off), .const (.slice none 0 0) => (match fnd id st.hp, cx.ty T with
  | some (.box _ t _), some (.sl e t') => (match holeAt t off with
   | some .sl => some ((id, off), e, t')
   | _ => none)
  | _, _ => none)
 | _, _ => none
def fieldRA (cx : Cx) (S : TypeId) (t : Ty) (x : t.D) (f : Nat) (K : AV0 → Prop) : Prop := match cx.rty S with
 | some s => (match cast? t s x with
  | some x => (match fget s x f with
   | .tv t' y => K (.rptr t' y)
   | _ => False)
  | none => False)
 | none => False
def fieldAddr0 (cx : Cx) (st : St) (S : TypeId) (a : AV0) (f : Nat) (K : AV0 → Prop) : Prop := match cx.ty S with
 | some s => match fld s f with
  | some (o, _) => match a with
   | .ptr id off => (match fnd id st.hp with | some (.box _ _ _) => K (.ptr id (off + o)) | _ => False)
   | .elt id i off => (match fnd id st.hp with | some (.row _ _ _) => K (.elt id i (off + o)) | _ => False)
   | .bel id off i g n t => (match fnd id st.hp with | some (.box _ _ _) => K (.bel id off i (g + o) n t) | _ => False)
   | _ => False
  | none => False
 | none => False
def fieldAddrA (cx : Cx) (st : St) (S : TypeId) (a : AV0) (f : Nat) (K : AV0 → Prop) : Prop := match a with
 | .rptr t x => fieldRA cx S t x f K
 | a => fieldAddr0 cx st S a f K
def fieldA (cx : Cx) (S : TypeId) (a : AV0) (f : Nat) (K : AV0 → Prop) : Prop := match cx.ty S, a with
 | some s, .tv t x => match cast? t s x with
  | some x => match fget s x f with
   | .tv t' y => K (.tv t' y)
   | _ => False
  | none => False
 | _, _ => False
def indexAddrA (cx : Cx) (st : St) (T : TypeId) (a i : AV0) (K : AV0 → Prop) : Prop := match cx.ty T, a, i with
 | some (.sl e t), .tv (.sl e' t') xs, .tv (.int _) n => match cast? (.sl e' t') (.sl e t) xs with
  | some xs => (0 ≤ (n : Int) ∧ (n : Int) < (List.length xs : Int)) ∧ K (.rptr t (rd (t := t) xs n))
  | none => False
 | some (.sl e t), .row id, .tv (.int _) n => match fnd id st.hp with
  | some (.row e' t' xs) => stat (Nat.beq e' e) (stat (decide (t' = t)) ((0 ≤ (n : Int) ∧ (n : Int) < (List.length xs : Int)) ∧ K (.elt id (Int.toNat n) 0)))
  | _ => False
 | some (.sl e t), .sub id lo k, .tv (.int _) n => match fnd id st.hp with
  | some (.row e' t' xs) => stat (Nat.beq e' e) (stat (decide (t' = t)) ((0 ≤ (n : Int) ∧ (n : Int) < (k : Int)) ∧ K (.elt id (lo + Int.toNat n) 0)))
  | _ => False
 | some (.arr m t), .ptr id off, .tv (.int _) n => match fnd id st.hp with
  | some (.box _ bt x) => (match getAt bt x off (.arr m t) with
   | some _ => (0 ≤ (n : Int) ∧ (n : Int) < (m : Int)) ∧ K (.bel id off (Int.toNat n) 0 m t)
   | none => False)
  | _ => False
 | some (.arr m t), .rptr t' xs, .tv (.int _) n => match cast? t' (.arr m t) xs with
  | some xs => (0 ≤ (n : Int) ∧ (n : Int) < (m : Int)) ∧ K (.rptr t (rd (t := t) xs n))
  | none => False
 | some (.sl e t), .wbx id off m _ t', .tv (.int _) n => match fnd id st.hp with
  | some (.box _ bt x) => stat (decide (t' = t)) (match getAt bt x off (.arr m t) with
   | some _ => (0 ≤ (n : Int) ∧ (n : Int) < (m : Int)) ∧ K (.bel id off (Int.toNat n) 0 m t)
   | none => False)
  | _ => False
 | some (.arr m t), .glb g, .tv (.int _) n => match cx.glb g with
  | some p => stat (Nat.beq t.size 1) ((0 ≤ (n : Int) ∧ (n : Int) < (m : Int)) ∧ K (.gel g (Int.toNat n)))
  | none => False
 | _, _, _ => False
def indexA (cx : Cx) (T : TypeId) (a i : AV0) (K : AV0 → Prop) : Prop := match cx.ty T, a, i with
 | some .str, .tv .str s, .tv (.int _) n => (0 ≤ (n : Int) ∧ (n : Int) < (ByteArray.size s : Int)) ∧ K (.tv (.int .u8) (bt s n))
 | some (.arr m t), .tv (.arr m' t') xs, .tv (.int _) n => match cast? (.arr m' t') (.arr m t) xs with
  | some xs => (0 ≤ (n : Int) ∧ (n : Int) < (m : Int)) ∧ K (.tv t (rd (t := t) xs n))
  | none => False
 | _, _, _ => False
def boundA (d : Int) (a : Option AV0) (K : Int → Prop) : Prop := match a with
 | none => K d
 | some (.tv (.int _) n) => K n
 | some _ => False
def sliceA (cx : Cx) (T : TypeId) (a : AV0) (lo hi : Option AV0) (K : AV0 → Prop) : Prop := match cx.ty T, a with
 | some .str, .tv .str s => boundA (ByteArray.size s : Int) hi fun h => (0 ≤ h ∧ h ≤ (ByteArray.size s : Int)) ∧ boundA 0 lo fun l => (0 ≤ l ∧ l ≤ h) ∧ K (.tv .str (ByteArray.extract s l.toNat h.toNat))
 | some (.sl e t), .tv (.sl e' t') xs => match cast? (.sl e' t') (.sl e t) xs with
  | some xs => boundA (List.length xs : Int) hi fun h => (0 ≤ h ∧ h ≤ (List.length xs : Int)) ∧ boundA 0 lo fun l => (0 ≤ l ∧ l ≤ h) ∧ K (.tv (.sl e t) ((List.take h.toNat xs).drop l.toNat))
  | none => False
 | _, _ => False
def subA (cx : Cx) (st : St) (T : TypeId) (id : Nat) (lo hi : Option AV0) (K : AV0 → Prop) : Prop := match cx.ty T, fnd id st.hp with
 | some (.sl e t), some (.row e' t' xs) => stat (Nat.beq e' e) (stat (decide (t' = t)) (boundA (List.length xs : Int) hi fun h => (0 ≤ h ∧ h ≤ (List.length xs : Int)) ∧ boundA 0 lo fun l => (0 ≤ l ∧ l ≤ h) ∧ K (.sub id l.toNat (h.toNat - l.toNat))))
 | _, _ => False
def arsA (cx : Cx) (st : St) (T R : TypeId) (b : Bool) (d : Option Tmp) (a : AV0) (K : St → Prop) : Prop := match cx.ty T, cx.ty R, a with
 | some (.arr n t), some (.sl e t1), .rptr t' xs => stat (decide (t1 = t)) (match cast? t' (.arr n t) xs with
  | some xs => K (st.put d (.v (.tv (.sl e t) xs)))
  | none => False)
 | some (.arr n t), some (.sl e t1), .ptr id off => stat (decide (t1 = t)) (match fnd id st.hp with
  | some (.box _ bt x) => (match getAt bt x off (.arr n t) with
   | some xs => bif b then K (st.put d (.v (.wbx id off n e t))) else K ((st.drop id).put d (.v (.tv (.sl e t) xs)))
   | none => False)
  | _ => False)
 | _, _, _ => False
def arsV (cx : Cx) (st : St) (T R : TypeId) (b : Bool) (a : AV0) (K : AV0 → Prop) : Prop := match cx.ty T, cx.ty R, a with
 | some (.arr n t), some (.sl e t1), .rptr t' xs => stat (decide (t1 = t)) (match cast? t' (.arr n t) xs with
  | some xs => K (.tv (.sl e t) xs)
  | none => False)
 | some (.arr n t), some (.sl e t1), .ptr id off => stat (decide (t1 = t)) (match fnd id st.hp with
  | some (.box _ bt x) => (match getAt bt x off (.arr n t) with
   | some _ => stat b (K (.wbx id off n e t))
   | none => False)
  | _ => False)
 | _, _, _ => False
def isArr : Option Ty → Bool
 | some (.arr _ _) => true
 | _ => false
def winQ (b : Bool) : AV0 → Option Nat
 | .row id => bif b then some id else none
 | _ => none
def ptrQ (hp : List (Nat × Ob)) : AV0 → Option Bool
 | .nilp => some true
 | .ptr id _ => (match fnd id hp with | some (.box _ _ _) => some false | _ => none)
 | .rptr _ _ => some false
 | _ => none
def nilCmp (op : BinOp) (a b : Bool) (K : AV0 → Prop) : Prop := stat (a || b) (match op with
 | .eql => K (.tv .bool (a && b))
 | .neq => K (.tv .bool (!(a && b)))
 | _ => False)
def binQ (cx : Cx) (hp : List (Nat × Ob)) (T : TypeId) (op : BinOp) (x y : AV0) (K : AV0 → Prop) : Prop := match ptrQ hp x, ptrQ hp y with
 | some a, some b => stat (cx.ptrT T) (nilCmp op a b K)
 | _, _ => binA cx T op (x.ro hp) (y.ro hp) K
def codeA (hp : List (Nat × Ob)) : AV → Option Nat
 | .v (.row i) => (match fnd i hp with | some (.row _ _ _) => some (cRow i) | _ => none)
 | .v (.ptr i 0) => (match fnd i hp with | some (.box _ _ _) => some (cPtr i) | _ => none)
 | .v .nilp => some 0
 | _ => none
def outR (o n : Nat) : List (Nat × Nat) → Bool
 | [] => true
 | p :: r => bif Nat.blt p.1 o || !Nat.blt p.1 (o + n) then outR o n r else false
def recA (t : Ty) (hp : List (Nat × Ob)) (x : t.D) (rs : List (Nat × Nat)) : List (Nat × AV) → Option (t.D × List (Nat × Nat))
 | [] => some (x, rs)
 | (f, a) :: r => match fld t f with
  | some (o, .hole _) => (match codeA hp a with
   | some c => bif outR o 1 rs then recA t hp x ((o, c) :: rs) r else none
   | none => none)
  | some (o, ft) => (match a with
   | .v (.tv t' y) => (match fset t x f (.tv t' y) with
    | some x => bif outR o ft.size rs then recA t hp x rs r else none
    | none => none)
   | _ => none)
  | none => none
def zrow (ty : TypeId → Option Ty) : List (Nat × Nat × TypeId) → St → Option St
 | [], st => some st
 | p :: r, st => match ty p.2.2 with
  | some (.sl e t) => bif Nat.blt p.2.1 st.n then zrow ty r (st.mkN p.2.1 (.row e t [])) else none
  | _ => none
def zrs : List (Nat × Nat × TypeId) → List (Nat × Nat)
 | [] => []
 | p :: r => (p.1, cRow p.2.1) :: zrs r
def isSlH : Option HK → Bool
 | some .sl => true
 | _ => false
def zOK (t : Ty) : List (Nat × Nat × TypeId) → Bool
 | [] => true
 | p :: r => isSlH (holeAt t p.1) && zOK t r
def rsR (d : Nat) : List (Nat × Nat) → List ((Nat × Nat) × AV0)
 | [] => []
 | p :: r => ((d, p.1), cAV p.2) :: rsR d r
def St.addR (st : St) (d : Nat) (rs : List (Nat × Nat)) : St := { st with rf := rsR d rs ++ st.rf }
def convA (cx : Cx) (S T : TypeId) (a : AV0) (K : AV0 → Prop) : Prop := match cx.ty S, cx.ty T, a with
 | some (.int _), some (.int k), .tv (.int _) n => K (.tv (.int k) (k.wrap n))
 | some .str, some .str, .tv .str s => K (.tv .str s)
 | some (.sl _ (.int .u8)), some .str, .tv (.sl _ (.int .u8)) xs => K (.tv .str (bytesOf xs))
 | _, _, _ => False
def AV0.pk (hp : List (Nat × Ob)) : AV0 → AV0
 | .wbx id off n e t => (match fnd id hp with
  | some (.box _ bt x) => (match getAt bt x off (.arr n t) with
   | some xs => .tv (.sl e t) xs
   | none => .un)
  | _ => .un)
 | a => a.ro hp
def strL (s : ByteArray) : List Int := s.data.toList.map fun b => (b.toNat : Int)
def srcA (cx : Cx) (hp : List (Nat × Ob)) (T T' : TypeId) (x : AV0) (K : AV0 → Prop) : Prop := match Nat.beq T' T with
 | true => K (x.pk hp)
 | false => match cx.ty T, cx.ty T', x with
  | some (.sl e (.int .u8)), some .str, .tv .str s => K (.tv (.sl e (.int .u8)) (strL s))
  | some (.sl e t), some (.int _), .tv (.int _) n => (0 ≤ (n : Int)) ∧ K (.tv (.sl e t) (List.replicate (Int.toNat n) t.zero))
  | _, _, _ => False
def appendA (cx : Cx) (st : St) (T : TypeId) (d : Nat) (s : Option AV0) (x : AV0) (K : St → Prop) : Prop := match cx.ty T, x with
 | some (.sl e t), .tv (.sl e' t') ys => match cast? (.sl e' t') (.sl e t) ys with
  | some ys => match s with
   | some (.row id) => match fnd id st.hp with
    | some (.row e1 t1 xs) => match cast? (.sl e1 t1) (.sl e t) xs with
     | some xs => (List.length xs + List.length ys ≤ 9223372036854775807 ∧ (List.length xs + List.length ys) * cx.bytes e ≤ 140737488355328) ∧ K ({ st with hp := del id st.hp }.mk_ d (.row e t (xs ++ ys)) (.row d))
     | none => False
    | _ => False
   | none => (List.length ys ≤ 9223372036854775807 ∧ (List.length ys) * cx.bytes e ≤ 140737488355328) ∧ K (st.mk_ d (.row e t ys) (.row d))
   | _ => False
  | none => False
 | _, _ => False
def cpy {α : Type} (ys xs : List α) : List α := List.take (List.length xs) ys ++ List.drop (List.length ys) xs
def copyA (cx : Cx) (st : St) (T : TypeId) (d s : AV0) (K : St → Int → Prop) : Prop := match cx.ty T, d, s with
 | some (.sl e t), .row id, .tv (.sl e' t') ys => (match cast? (.sl e' t') (.sl e t) ys with
  | some ys => (match fnd id st.hp with
   | some (.row e2 t2 xs) => stat (Nat.beq e2 e && Nat.beq t.size 1) (match cast? (.sl e t2) (.sl e t) xs with
    | some xs => K { st with hp := ins id (.row e t (cpy (α := t.D) ys xs)) st.hp } (Nat.min (List.length (α := t.D) ys) (List.length (α := t.D) xs) : Nat)
    | none => False)
   | _ => False)
  | none => False)
 | some (.sl e t), .wbx id off n e2 t2, .tv (.sl e' t') ys => (match cast? (.sl e' t') (.sl e t) ys with
  | some ys => (match fnd id st.hp with
   | some (.box T' bt x) => stat (decide (t2 = t) && Nat.beq t.size 1) (match getAt bt x off (.arr n t) with
    | some xs => (match setAt bt x off (.arr n t) (cpy (α := t.D) ys xs) with
     | some x' => stat (noR id off (n * t.size) st.rf) (K { st with hp := ins id (.box T' bt x') st.hp } (Nat.min (List.length (α := t.D) ys) n : Nat))
     | none => False)
    | none => False)
   | _ => False)
  | none => False)
 | _, _, _ => False
def isNil : Operand → Bool
 | .const (.slice none 0 0) => true
 | _ => false
def AV0.arg (hp : List (Nat × Ob)) (a : AV0) : AV0 := match a.ro hp with
 | .ptr _ _ => .un
 | .elt _ _ _ => .un
 | .row _ => .un
 | .own _ _ _ => .un
 | .sub _ _ _ => .un
 | .str _ _ _ => .un
 | .bel _ _ _ _ _ _ => .un
 | .wbx _ _ _ _ _ => .un
 | a => a
def AV.arg (hp : List (Nat × Ob)) : AV → AV0
 | .v a => a.arg hp
 | .tup _ => .un
def deep (g : Nat → Option ((t' : Ty) × t'.D)) (st : St) (id : Nat) : (t : Ty) → t.D → Nat → Option ((t' : Ty) × t'.D)
 | .pair a b, x, off => match deep g st id a x.1 off with
  | some p => (match deep g st id b x.2 (off + a.size) with
   | some q => some ⟨.pair p.1 q.1, (p.2, q.2)⟩
   | none => none)
  | none => none
 | .hole .sl, _, off => (match fndR id off st.rf with
  | .row j => (match fnd j st.hp with
   | some (.row e t xs) => some ⟨.sl e t, xs⟩
   | _ => none)
  | _ => none)
 | .hole .ptr, _, off => (match fndR id off st.rf with
  | .ptr j 0 => (match g j with
   | some p => some ⟨.pt p.1, p.2⟩
   | none => none)
  | _ => none)
 | .pt t, x, _ => some ⟨.pt t, x⟩
 | .op t, x, _ => some ⟨.op t, x⟩
 | .int k, x, _ => some ⟨.int k, x⟩
 | .bool, x, _ => some ⟨.bool, x⟩
 | .str, x, _ => some ⟨.str, x⟩
 | .unit, x, _ => some ⟨.unit, x⟩
 | .arr n t, x, _ => some ⟨.arr n t, x⟩
 | .sl e t, x, _ => some ⟨.sl e t, x⟩
def deepN : Nat → St → Nat → Option ((t' : Ty) × t'.D)
 | 0, _, _ => none
 | n + 1, st, id => match fnd id st.hp with
  | some (.box _ t x) => deep (deepN n st) st id t x 0
  | _ => none
def AV0.argS (st : St) : AV0 → AV0
 | .ptr id 0 => (match deepN 4 st id with
  | some p => .rptr p.1 p.2
  | none => .un)
 | .wbx i o n e t => AV0.pk st.hp (.wbx i o n e t)
 | a => a.arg st.hp
def AV.argS (st : St) : AV → AV0
 | .v a => a.argS st
 | .tup _ => .un
def flats : List AV0 → Prop → Prop
 | [], k => k
 | .tv t _ :: r, k => match t.flat with
  | true => flats r k
  | false => False
 | _ :: _, _ => False
theorem flats_out : ∀ {l : List AV0} {k : Prop}, flats l k → (∀ r ∈ l, ∃ t x, r = .tv t x ∧ t.flat = true) ∧ k
 | [], k, h => ⟨fun r hr => by simp at hr, h⟩
 | .tv t x :: r, k, h => by
  unfold flats at h
  split at h
  · rename_i ht
    obtain ⟨h1, h2⟩ := flats_out h
    refine ⟨fun q hq => ?_, h2⟩
    rcases List.mem_cons.1 hq with rfl | hq
    · exact ⟨t, x, rfl, ht⟩
    · exact h1 q hq
  · exact h.elim
def flatsO : List AV0 → Prop → Prop
 | [], k => k
 | .tv t x :: r, k => match t.flat with
  | true => flatsO r k
  | false => match t, x with
   | .sl _ _, [] => flatsO r k
   | _, _ => False
 | .own _ t _ :: r, k => match t.flat with
  | true => flatsO r k
  | false => False
 | _ :: _, _ => False
theorem flatsO_out : ∀ {l : List AV0} {k : Prop}, flatsO l k → (∀ r ∈ l, (∃ t x, r = .tv t x ∧ t.flat = true) ∨ (∃ e t xs, r = .own e t xs ∧ t.flat = true) ∨ ∃ e t, r = .tv (.sl e t) []) ∧ k
 | [], k, h => ⟨fun r hr => by simp at hr, h⟩
 | .tv t x :: r, k, h => by
  unfold flatsO at h
  split at h
  · rename_i ht
    obtain ⟨h1, h2⟩ := flatsO_out h
    refine ⟨fun q hq => ?_, h2⟩
    rcases List.mem_cons.1 hq with rfl | hq
    · exact .inl ⟨t, x, rfl, ht⟩
    · exact h1 q hq
  · split at h
    · rename_i e t'
      obtain ⟨h1, h2⟩ := flatsO_out h
      refine ⟨fun q hq => ?_, h2⟩
      rcases List.mem_cons.1 hq with rfl | hq
      · exact .inr (.inr ⟨_, _, rfl⟩)
      · exact h1 q hq
    · exact h.elim
 | .own e t xs :: r, k, h => by
  unfold flatsO at h
  split at h
  · rename_i ht
    obtain ⟨h1, h2⟩ := flatsO_out h
    refine ⟨fun q hq => ?_, h2⟩
    rcases List.mem_cons.1 hq with rfl | hq
    · exact .inr (.inl ⟨e, t, xs, rfl, ht⟩)
    · exact h1 q hq
  · exact h.elim
def callA (cx : Cx) (st : St) (f : FuncId) (as : List AV) (K : St → List AV0 → Prop) : Prop :=
 bif cx.bor f then cx.call f (as.map (AV.argS st)) (fun res => flatsO res (K st res))
 else cx.call f (as.map (AV.arg st.hp)) (fun res => K (freezes st (as.flatMap AV.ids)) res)
def rowA (cx : Cx) (st : St) (k : RowF) (e : TypeId) (d : Nat) (Ts : List TypeId) (as : List AV) (K : St → Prop) : Prop := match k, Ts, as with
 | .clone, [T], [.v x] => (match cx.ty T, x.ro st.hp with
  | some (.sl e1 t), .tv (.sl e' t') ys => (match cast? (.sl e' t') (.sl e t) ys with
   | some ys => stat (Nat.beq e1 e) ((List.length ys ≤ 9223372036854775807 ∧ (List.length ys) * cx.bytes e ≤ 140737488355328) ∧ K (st.mk_ d (.row e t ys) (.row d)))
   | none => False)
  | _, _ => False)
 | .insert, [T, _, _], [.v (.row id), .v (.tv (.int .i64) n), .v (.row id2)] => (match cx.ty T, fnd id st.hp, fnd id2 st.hp with
  | some (.sl e1 t), some (.row ea ta xs), some (.row eb tb ys) => (match cast? (.sl ea ta) (.sl e t) xs, cast? (.sl eb tb) (.sl e t) ys with
   | some xs, some [y] => stat (Nat.beq e1 e) (bif Nat.beq id id2 then False else ((0 ≤ n ∧ n ≤ (List.length xs : Int)) ∧ (List.length xs + 1 ≤ 9223372036854775800 ∧ (List.length xs + 1) * cx.bytes e ≤ 140737488355328)) ∧ K ({ st with hp := del id st.hp }.mk_ d (.row e t (insL xs n y)) (.row d)))
   | _, _ => False)
  | _, _, _ => False)
 | .delete, [T, _, _], [.v (.row id), .v (.tv (.int .i64) n), .v (.tv (.int .i64) m)] => (match cx.ty T, fnd id st.hp with
  | some (.sl e1 t), some (.row ea ta xs) => (match cast? (.sl ea ta) (.sl e t) xs with
   | some xs => stat (Nat.beq e1 e) (((0 ≤ n ∧ n < (List.length xs : Int)) ∧ (m ≤ n + 1 ∧ n + 1 ≤ m)) ∧ K ({ st with hp := del id st.hp }.mk_ d (.row e t (delL xs n)) (.row d)))
   | none => False)
  | _, _ => False)
 | _, _, _ => False
def argsA (cx : Cx) (st : St) : List Operand → List TypeId → Option (List AV)
 | [], [] => some []
 | x :: xs, T :: Ts => match argsA cx st xs Ts with
  | some l => some (opA cx st T x :: l)
  | none => none
 | _, _ => none
def arrV (st : St) (parts : List (Nat × Operand)) : Ty → Option AV0
 | .arr n e => (match fillL e (List.replicate n e.zero) (roP st.hp (partsL st e parts)) with
  | some xs => some (.tv (.arr n e) xs)
  | none => none)
 | _ => none
def arrI (st : St) (parts : List (Nat × Operand)) : Ty → List Nat
 | .arr _ e => idsP (partsL st e parts)
 | _ => []
def putRes (st : St) (d : Option Tmp) : List AV0 → St
 | .own e t xs :: r => match d with
  | some d => match r with
   | [] => st.mk_ d (.row e t xs) (.row d)
   | r => st.mkT_ d (.row e t xs) (.row d :: r)
  | none => st
 | [r] => st.put d (.v r)
 | rs => st.put d (.tup rs)
def yT (op : BinOp) (T T' : TypeId) : TypeId := match op with | .shl | .shr => T' | _ => T
def Ty.isSt : Ty → Bool
 | .unit | .pair _ _ => true
 | _ => false
def one (a : AV) (K : AV0 → Prop) : Prop := match a with
 | .v a => K a
 | .tup _ => False
def distinctL : List Nat → Bool
 | [] => true
 | x :: r => !inL x r && distinctL r
def lkN (k : Nat) : List (Nat × Nat) → Option Nat
 | [] => none
 | p :: r => bif Nat.beq p.1 k then some p.2 else lkN k r
def ivN (v : Nat) : List (Nat × Nat) → Option Nat
 | [] => none
 | p :: r => bif Nat.beq p.2 v then some p.1 else ivN v r
def lkO (k : Nat) : List (Nat × SkO) → Option SkO
 | [] => none
 | p :: r => bif Nat.beq p.1 k then some p.2 else lkO k r
def envRow (c : Nat) : List (Nat × SkV) → Bool
 | [] => false
 | (_, .row d) :: r => bif Nat.beq d c then true else envRow c r
 | _ :: r => envRow c r
def pinS (k : Sk) (c : Nat) : Bool := match lkO c k.hp with
 | some (.box _ _) => true
 | some (.row _ _) => envRow c k.env
 | none => false
def AV0.nm (g : Nat → Option Nat) : AV0 → AV0
 | .tv t x => .tv t x
 | .rptr t x => .rptr t x
 | .fn f => .fn f
 | .nilp => .nilp
 | .clo f t x => .clo f t x
 | .row i => (match g i with | some j => .row j | none => .un)
 | .ptr i o => (match g i with | some j => .ptr j o | none => .un)
 | .wbx i o n e t => (match g i with | some j => .wbx j o n e t | none => .un)
 | _ => .un
def hpS (hp : List (Nat × Ob)) : List (Nat × Nat) → List (Nat × Ob)
 | [] => []
 | p :: r => (match fnd p.2 hp with | some o => (p.1, o) :: hpS hp r | none => hpS hp r)
def rfS (ρ : List (Nat × Nat)) (rf : List ((Nat × Nat) × AV0)) : List ((Nat × Nat) × Nat) → List ((Nat × Nat) × AV0)
 | [] => []
 | p :: r => (p.1, (match lkN p.1.1 ρ with | some id => (fndR id p.1.2 rf).nm (fun i => ivN i ρ) | none => .un)) :: rfS ρ rf r
def subS (S : Sk) (st : St) (ρ : List (Nat × Nat)) (l : List AV0) : St :=
 { env := initE 0 (l.map (AV0.nm fun i => ivN i ρ)), hp := hpS st.hp ρ, n := l.length, rf := rfS ρ st.rf S.rf }
def addP (c id : Nat) (ρ : List (Nat × Nat)) : Option (List (Nat × Nat)) := match lkN c ρ with
 | none => some (ρ ++ [(c, id)])
 | some j => bif Nat.beq j id then some ρ else none
def bindE (l : List AV0) : List (Nat × SkV) → List (Nat × Nat) → Option (List (Nat × Nat))
 | [], ρ => some ρ
 | (i, .ptr c _) :: r, ρ => (match l[i]? with
  | some (.ptr id _) => (match addP c id ρ with | some ρ => bindE l r ρ | none => none)
  | _ => none)
 | (i, .row c) :: r, ρ => (match l[i]? with
  | some (.row id) => (match addP c id ρ with | some ρ => bindE l r ρ | none => none)
  | _ => none)
 | _ :: r, ρ => bindE l r ρ
def bindR (rf : List ((Nat × Nat) × AV0)) : List ((Nat × Nat) × Nat) → List (Nat × Nat) → Option (List (Nat × Nat))
 | [], ρ => some ρ
 | p :: r, ρ => (match lkN p.1.1 ρ with
  | some id => (match fndR id p.1.2 rf with
   | .row q => (match addP (cId p.2) q ρ with | some ρ => bindR rf r ρ | none => none)
   | .ptr q _ => (match addP (cId p.2) q ρ with | some ρ => bindR rf r ρ | none => none)
   | _ => bindR rf r ρ)
  | none => none)
def bindS (S : Sk) (st : St) (l : List AV0) : Option (List (Nat × Nat)) := match bindE l S.env [] with
 | some ρ => bindR st.rf S.rf ρ
 | none => none
def newP (sp : Nat → Nat) (ρ : List (Nat × Nat)) : List (Nat × SkO) → List (Nat × Nat)
 | [] => []
 | p :: r => (match lkN p.1 ρ with | some _ => newP sp ρ r | none => (p.1, sp p.1) :: newP sp ρ r)
def keepB (inn : Sk) (out : List (Nat × SkO)) (c : Nat) : Bool := match lkO c inn.hp, lkO c out with
 | some (.box _ _), some (.box _ _) => true
 | some (.row e t), some (.row e' t') => envRow c inn.env && (Nat.beq e e' && decide (t = t'))
 | _, _ => false
def killI (inn : Sk) (out : List (Nat × SkO)) : List (Nat × Nat) → List Nat
 | [] => []
 | p :: r => bif keepB inn out p.1 then killI inn out r else p.2 :: killI inn out r
def bxOK (S : IoS) (p : Nat × SkO) : Bool := match p.2, lkO p.1 S.inn.hp with
 | .box _ _, some (.row _ _) => false
 | _, _ => true
def okS (S : IoS) (ρ nw : List (Nat × Nat)) (n : Nat) : Bool :=
 distinctL ((ρ ++ nw).map (·.1)) && (distinctL ((ρ ++ nw).map (·.2)) &&
  (nw.all (fun p => Nat.blt p.2 n && !inL p.1 (S.inn.hp.map (·.1))) && (S.out.hp.all (fun p => inL p.1 ((ρ ++ nw).map (·.1)) && bxOK S p) && ρ.all (fun p => Nat.blt p.2 n || keepB S.inn S.out.hp p.1))))
def okI (inn : Sk) (ρ : List (Nat × Nat)) (ln : Nat) : Bool :=
 inn.fz.isEmpty && (distinctL (ρ.map (·.1)) && (distinctL (ρ.map (·.2)) && (inn.hp.all (fun p => Nat.ble ln p.1 && inL p.1 (ρ.map (·.1))) && (ρ.all (fun p => inL p.1 (inn.hp.map (·.1))) && Nat.beq ln inn.n))))
def delA (A : List Nat) : List (Nat × Ob) → List (Nat × Ob)
 | [] => []
 | p :: r => bif inL p.1 A then delA A r else p :: delA A r
def offA (A : List Nat) : List ((Nat × Nat) × AV0) → List ((Nat × Nat) × AV0)
 | [] => []
 | p :: r => bif inL p.1.1 A then offA A r else p :: offA A r
def AV0.killL : List Nat → AV0 → AV0
 | [], a => a
 | i :: r, a => (a.kill i).killL r
def AV.killL : List Nat → AV → AV
 | [], a => a
 | i :: r, a => (a.kill i).killL r
def hpB (ρ : List (Nat × Nat)) : List (Nat × Ob) → List (Nat × Ob)
 | [] => []
 | p :: r => (match lkN p.1 ρ with | some id => (id, p.2) :: hpB ρ r | none => hpB ρ r)
def rfB (ρ : List (Nat × Nat)) : List ((Nat × Nat) × AV0) → List ((Nat × Nat) × AV0)
 | [] => []
 | p :: r => (match lkN p.1.1 ρ with | some id => ((id, p.1.2), p.2.nm fun i => lkN i ρ) :: rfB ρ r | none => rfB ρ r)
def backS (S : IoS) (ρ : List (Nat × Nat)) (st sy : St) : St :=
 { env := mapE (AV.killL (killI S.inn S.out.hp ρ)) st.env, hp := hpB ρ sy.hp ++ delA (ρ.map (·.2)) st.hp, n := st.n, rf := rfB ρ sy.rf ++ mapR (AV0.killL (killI S.inn S.out.hp ρ)) (offA (ρ.map (·.2)) st.rf) }
def resS (ρ : List (Nat × Nat)) (sy : St) : Nat → Nat → List AV0
 | 0, _ => []
 | k + 1, i => (match fndE i sy.env with | .v a => a.nm (fun j => lkN j ρ) | .tup _ => .un) :: resS ρ sy k (i + 1)
def resAV : List AV0 → AV
 | [r] => .v r
 | rs => .tup rs
def rowP (i : Nat) : List (Nat × SkV) → Bool
 | [] => false
 | (j, .row _) :: r => bif Nat.beq j i then true else rowP i r
 | _ :: r => rowP i r
def AV.roW (hp : List (Nat × Ob)) : AV → AV0
 | .v a => a.pk hp
 | .tup _ => .un
def AV.idsW : AV → List Nat
 | .v (.wbx id _ _ _ _) => [id]
 | a => a.ids
def roK (env : List (Nat × SkV)) (hp : List (Nat × Ob)) : Nat → List AV → List AV0
 | _, [] => []
 | i, a :: r => (bif rowP i env then (match a with | .v (.row id) => .row id | _ => .un) else a.roW hp) :: roK env hp (i + 1) r
def idsK (env : List (Nat × SkV)) : Nat → List AV → List Nat
 | _, [] => []
 | i, a :: r => (bif rowP i env then [] else a.idsW) ++ idsK env (i + 1) r
def nilAs : List AV → Bool
 | [] => false
 | .v .nilp :: _ => true
 | _ :: r => nilAs r
def scOf (S : Option SFn) (as : List AV) : Option SFn := bif nilAs as then none else S
theorem scOf_some {S : Option SFn} {as : List AV} {T : SFn} (h : scOf S as = some T) : nilAs as = false ∧ S = some T := by
 unfold scOf at h
 cases hn : nilAs as with
 | true => rw [hn] at h; cases h
 | false => rw [hn] at h; exact ⟨rfl, h⟩
def scallB (cx : Cx) (d : Option Tmp) (S : SFn) (l : List AV0) (K : St → Prop) (st : St) : Prop := match bindS S.inn st l with
 | some ρ => stat (okI S.inn ρ l.length) (S.inn.as (subS S.inn st ρ l) fun x => S.F x fun i y =>
  stat (okS (S.io i) ρ (newP (cx.sp (d.getD 0)) ρ (S.out i).hp) st.n) (K ((backS (S.io i) (ρ ++ newP (cx.sp (d.getD 0)) ρ (S.out i).hp) st ((S.out i).mk' y)).put d (resAV (resS (ρ ++ newP (cx.sp (d.getD 0)) ρ (S.out i).hp) ((S.out i).mk' y) (S.out i).n 0)))))
 | none => False
def scallA (cx : Cx) (st : St) (d : Option Tmp) (S : SFn) (as : List AV) (K : St → Prop) : Prop := scallB cx d S (roK S.inn.env st.hp 0 as) K (freezes st (idsK S.inn.env 0 as))
def rnm (id nm : Nat) (st : St) : St := bif Nat.beq id nm || !Nat.blt nm st.n then st else (match fnd id st.hp with
 | some _ => st.ren0 id nm
 | none => st)
def rnmV (a : AV0) (nm : Nat) (st : St) : St := match a with
 | .ptr id 0 => rnm id nm st
 | .row id => rnm id nm st
 | _ => st
def renL (d : Nat) : List (Nat × Nat × Nat) → St → St
 | [], st => st
 | (0, _, nm) :: r, st => (match st.get d with
  | .v a => renL d r (rnmV a nm st)
  | .tup _ => renL d r st)
 | (k + 1, off, nm) :: r, st => renL d r (rnmV (fndR k off st.rf) nm st)
def markA (cx : Cx) (st : St) (S T : TypeId) (v : AV) (K : St → AV0 → Prop) (old : Prop) : Prop := match v with
 | .v (.row id) => bif Nat.beq S T then (match cx.ty S, fnd id st.hp with
  | some (.sl e (.int .u8)), some (.row e' t' xs) => (match cast? (.sl e' t') (.sl e (.int .u8)) xs with
   | some xs => 0 < List.length xs ∧ K { st with hp := del id st.hp } (.tv (.sl e (.int .u8)) xs)
   | none => False)
  | _, _ => False) else old
 | _ => old
def aop (cx : Cx) (o : Oper) (K : St → Prop) (st : St) : Prop :=
 match o.op with
 | .move x => K (st.put o.dst (opA cx st o.type x))
 | .assign x => match o.dst, x with
  | some d, .tmp i => match st.get i with
   | .v (.row id) => bif Nat.beq id d then K (st.put o.dst (.v (.row id))) else (match fnd id st.hp with
    | some (.row _ _ _) => stat (Nat.blt d st.n) (K ((st.ren0 id d).put o.dst (.v (.row d))))
    | _ => False)
   | a => K (renL d (cx.pn d) (st.put o.dst a))
  | some d, .const c => bif cx.nilrow d then (match cx.ty o.type, c with
   | some (.sl e t), .slice none 0 0 => K (st.mk_ d (.row e t []) (.row d))
   | _, _ => False)
   else K (st.put o.dst (opA cx st o.type x))
  | _, _ => K (st.put o.dst (opA cx st o.type x))
 | .pick c a b => match opA cx st 0 c with
  | .v (.tv .bool c) => br c (K (st.put o.dst (opA cx st o.type a))) (K (st.put o.dst (opA cx st o.type b)))
  | _ => False
 | .alloc T => match o.dst, cx.ty T with
  | some d, some t => K (st.mk_ d (.box T t t.zero) (.ptr d 0))
  | _, _ => False
 | .box T x => match o.dst with
  | some d => (match cx.ty T, opA cx st T x with
   | some t, .v (.str t' x rs) => (match cast? t' t x with
    | some x => stat (!cAny d rs && Nat.blt d st.n) (K ((st.mk0 d (.box T t x) (.ptr d 0)).addR d rs))
    | none => False)
   | _, a => boxOf cx st T a fun t y => K ((freezes st a.ids).mk_ d (.box T t y) (.ptr d 0)))
  | none => False
 | .build T parts => match cx.ty T with
  | some t => bif t.isSt then (match fills t t.zero (roP st.hp (partsF st t parts.toList)) with
   | some x => K ((freezes st (idsP (partsF st t parts.toList))).put o.dst (.v (.tv t x)))
   | none => (match zrow cx.ty (cx.hz (o.dst.getD 0)) st with
    | some st => (match recA t st.hp t.zero (zrs (cx.hz (o.dst.getD 0))) (partsF st t parts.toList) with
     | some (x, rs) => stat (zOK t (cx.hz (o.dst.getD 0))) (K (st.put o.dst (.v (.str t x rs))))
     | none => False)
    | none => False)) else (match arrV st parts.toList t with
    | some v => K ((freezes st (arrI st parts.toList t)).put o.dst (.v v))
    | none => False)
  | none => False
 | .buildSlice T n parts => match o.dst, cx.ty T with
  | some d, some (.sl e t) => match fillL t (List.replicate n t.zero) (roP st.hp (partsL st t parts.toList)) with
   | some xs => stat (Nat.ble (n * t.size) 16777216) (K ((freezes st (idsP (partsL st t parts.toList))).mk_ d (.row e t xs) (.row d)))
   | none => False
  | _, _ => False
 | .load T a => one (opA cx st 0 a) fun a => loadA cx st T a fun v => K (st.put o.dst (.v v))
 | .store T a x => match holN cx st T (opA cx st 0 a) x with
  | some (k, e, t) => stat (Nat.blt (cx.sp k.1 k.2) st.n && !Nat.beq (cx.sp k.1 k.2) k.1) (K (((st.mkN (cx.sp k.1 k.2) (.row e t [])).setR k (.row (cx.sp k.1 k.2))).put o.dst (.v .un)))
  | none => match holQ cx st T (opA cx st 0 a) (opA cx st T x) with
  | some (k, v) => K ((hren (cx.hn k.1 k.2) v (st.setR k v)).put o.dst (.v .un))
  | none => bif isOp (opA cx st 0 a) then storeO cx st T (opA cx st 0 a) (opA cx st T x) fun st => K (st.put o.dst (.v .un)) else one (opA cx st 0 a) fun a => storeA cx (freezes st (opA cx st T x).ids) T a ((opA cx st T x).ro st.hp) fun st => K (st.put o.dst (.v .un))
 | .nilCheck x => one (opA cx st 0 x) fun a => match a with
  | .rptr t y => K (st.put o.dst (.v (.rptr t y)))
  | .ptr i f => (match fnd i st.hp with | some (.box _ _ _) => K (st.put o.dst (.v (.ptr i f))) | _ => False)
  | .fn f => K (st.put o.dst (.v (.fn f)))
  | _ => False
 | .binOp op T x y T' => one (opA cx st T x) fun x => one (opA cx st (yT op T T') y) fun y => binQ cx st.hp T op x y fun v => K (st.put o.dst (.v v))
 | .unOp op T x => one (opA cx st T x) fun x => unA op x fun v => K (st.put o.dst (.v v))
 | .convert S T x => markA cx st S T (opA cx st S x) (fun st v => K (st.put o.dst (.v v))) (one (opA cx st S x) fun x => convA cx S T (x.ro st.hp) fun v => K (st.put o.dst (.v v)))
 | .makeSlice T l c => match o.dst, cx.ty T, opA cx st 0 l, opA cx st 0 c with
  | some d, some (.sl e t), .v (.tv (.int _) n), .v (.tv (.int _) m) => (0 ≤ (n : Int) ∧ (n : Int) ≤ (m : Int) ∧ (m : Int) ≤ 9223372036854775807 ∧ (m : Int).toNat * cx.bytes e ≤ 140737488355328) ∧ K (st.mk_ d (.row e t (List.replicate (n : Int).toNat t.zero)) (.row d))
  | _, _, _, _ => False
 | .slice T x lo hi none => bif isArr (cx.ty T) && lo.isNone && hi.isNone then one (opA cx st T x) fun x => arsA cx st T o.type (cx.win (o.dst.getD 0)) o.dst x K else one (opA cx st T x) fun x => match winQ (cx.win (o.dst.getD 0)) x with
  | some id => subA cx st T id (lo.map fun l => (opA cx st 0 l).ro st.hp) (hi.map fun h => (opA cx st 0 h).ro st.hp) fun v => K (st.put o.dst (.v v))
  | none => sliceA cx T (x.ro st.hp) (lo.map fun l => (opA cx st 0 l).ro st.hp) (hi.map fun h => (opA cx st 0 h).ro st.hp) fun v => K ((freezes st x.ids).put o.dst (.v v))
 | .fieldAddr S x f => one (opA cx st 0 x) fun a => fieldAddrA cx st S a f fun v => K (st.put o.dst (.v v))
 | .field S x f => one (opA cx st S x) fun a => fieldA cx S a f fun v => K (st.put o.dst (.v v))
 | .indexAddr T x i => one (opA cx st T x) fun x => one (opA cx st 0 i) fun i => indexAddrA cx st T x i fun v => K (st.put o.dst (.v v))
 | .index T x i => one (opA cx st T x) fun x => one (opA cx st 0 i) fun i => indexA cx T x i fun v => K (st.put o.dst (.v v))
 | .makeFunc fn first captured => (match fn, first.toList, captured.toList with
  | .func f, [], [x] => (match opA cx st 0 x with
   | .v (.ptr id 0) => (match fnd id st.hp with
    | some (.box _ t x) => K ((st.drop id).put o.dst (.v (.clo f t x)))
    | _ => False)
   | .v (.rptr t x) => K (st.put o.dst (.v (.clo f t x)))
   | _ => False)
  | _, _, _ => False)
 | .extract t i => match opA cx st 0 t with
  | .tup l => (match l[i]? with
   | some x => K (st.put o.dst (.v x))
   | none => False)
  | _ => False
 | .call c => match c.callee with
  | .builtin .len => (match c.args.toList, c.argTypes.toList with
   | [x], [T] => one (opA cx st T x) fun x => lenA cx T x st.hp fun v => K (st.put o.dst (.v v))
   | _, _ => False)
  | .builtin .append => (match c.args.toList, c.argTypes.toList, o.dst with
   | [s, x], [T, T'], some d => one (opA cx st T' x) fun x => srcA cx st.hp T T' x fun x => (match isNil s with
    | true => appendA cx st T d none x K
    | false => one (opA cx st T s) fun s => appendA cx st T d (some s) x K)
   | _, _, _ => False)
  | .builtin .copy => (match c.args.toList, c.argTypes.toList with
   | [d, s], [T, T'] => one (opA cx st T d) fun d => one (opA cx st T' s) fun s => copyA cx st T d (s.pk st.hp) fun st n => K (st.put o.dst (.v (.tv (.int .i64) n)))
   | _, _ => False)
  | .builtin .max => (match c.args.toList with
   | [x, y] => one (opA cx st o.type x) fun x => one (opA cx st o.type y) fun y => (match x, y with
    | .tv (.int k) x, .tv (.int k') y => stat (decide (k = k')) (K (st.put o.dst (.v (.tv (.int k) (maxInt x y)))))
    | _, _ => False)
   | _ => False)
  | .builtin .min => (match c.args.toList with
   | [x, y] => one (opA cx st o.type x) fun x => one (opA cx st o.type y) fun y => (match x, y with
    | .tv (.int k) x, .tv (.int k') y => stat (decide (k = k')) (K (st.put o.dst (.v (.tv (.int k) (minInt x y)))))
    | _, _ => False)
   | _ => False)
  | .value f => (match opA cx st 0 f with
   | .v (.fn f) => (match argsA cx st c.args.toList c.argTypes.toList with
    | some as => (match scOf (cx.scall f) as with
     | some S => scallA cx st o.dst S as K
     | none => (match cx.rowf f, o.dst with
      | none, _ => callA cx st f as fun st res => K (putRes st o.dst res)
      | some (k, e), some d => rowA cx st k e d c.argTypes.toList as K
      | some _, none => False))
    | none => False)
   | .v (.clo f t y) => (match argsA cx st c.args.toList c.argTypes.toList with
    | some as => callA cx st f (as ++ [.v (.rptr t y)]) fun st res => K (putRes st o.dst res)
    | none => False)
   | _ => False)
  | _ => False
 | _ => False
def split (st : St) (t : Tmp) (b : Bool) (x y : St → Prop) : Prop := br b (x (st.put (some t) (.v (.tv .bool true)))) (y (st.put (some t) (.v (.tv .bool false))))
def frcV (k : AV → Prop) : AV → Prop
 | .v (.tv t x) => k (.v (.tv t x))
 | .v (.row i) => k (.v (.row i))
 | .v (.ptr i o) => k (.v (.ptr i o))
 | .v (.rptr t x) => k (.v (.rptr t x))
 | .v (.elt i j o) => k (.v (.elt i j o))
 | .v (.fn f) => k (.v (.fn f))
 | .v (.own e t x) => k (.v (.own e t x))
 | .v (.bel i o j f n t) => k (.v (.bel i o j f n t))
 | .v (.wbx i o n e t) => k (.v (.wbx i o n e t))
 | .v (.clo f t x) => k (.v (.clo f t x))
 | .v (.glb g) => k (.v (.glb g))
 | .v (.gel g i) => k (.v (.gel g i))
 | .v .nilp => k (.v .nilp)
 | .v (.sub i l n) => k (.v (.sub i l n))
 | .v (.str t x rs) => k (.v (.str t x rs))
 | .v .un => k (.v .un)
 | .tup l => k (.tup l)
def frcE : List (Nat × AV) → (List (Nat × AV) → Prop) → Prop
 | [], k => k []
 | (i, x) :: r, k => frcV (fun x => frcE r fun l => k ((i, x) :: l)) x
def frcO (k : Ob → Prop) : Ob → Prop
 | .box T t x => k (.box T t x)
 | .row e t xs => k (.row e t xs)
def frcH : List (Nat × Ob) → (List (Nat × Ob) → Prop) → Prop
 | [], k => k []
 | (i, o) :: r, k => frcO (fun o => frcH r fun l => k ((i, o) :: l)) o
def frcA (k : AV0 → Prop) : AV0 → Prop
 | .tv t x => k (.tv t x)
 | .row i => k (.row i)
 | .ptr i o => k (.ptr i o)
 | .rptr t x => k (.rptr t x)
 | .elt i j o => k (.elt i j o)
 | .fn f => k (.fn f)
 | .own e t x => k (.own e t x)
 | .bel i o j f n t => k (.bel i o j f n t)
 | .wbx i o n e t => k (.wbx i o n e t)
 | .clo f t x => k (.clo f t x)
 | .glb g => k (.glb g)
 | .gel g i => k (.gel g i)
 | .nilp => k .nilp
 | .sub i l n => k (.sub i l n)
 | .str t x rs => k (.str t x rs)
 | .un => k .un
def frcR : List ((Nat × Nat) × AV0) → (List ((Nat × Nat) × AV0) → Prop) → Prop
 | [], k => k []
 | ((i, o), x) :: r, k => frcA (fun x => frcR r fun l => k (((i, o), x) :: l)) x
def frc (K : St → Prop) : St → Prop
 | ⟨e, h, n, r⟩ => frcE e fun e => frcH h fun h => frcR r fun r => K ⟨e, h, n, r⟩
theorem frcA_eq (k : AV0 → Prop) (x : AV0) : frcA k x = k x := by cases x <;> rfl
theorem frcR_eq : ∀ (e : List ((Nat × Nat) × AV0)) (k : List ((Nat × Nat) × AV0) → Prop), frcR e k = k e
 | [], k => rfl
 | ((i, o), x) :: r, k => by
  unfold frcR
  rw [frcA_eq, frcR_eq r]
theorem frcV_eq (k : AV → Prop) (x : AV) : frcV k x = k x := by
 cases x with
 | v a => cases a <;> rfl
 | tup l => rfl
theorem frcE_eq : ∀ (e : List (Nat × AV)) (k : List (Nat × AV) → Prop), frcE e k = k e
 | [], k => rfl
 | (i, x) :: r, k => by
  unfold frcE
  rw [frcV_eq, frcE_eq r]
theorem frcO_eq (k : Ob → Prop) (x : Ob) : frcO k x = k x := by cases x <;> rfl
theorem frcH_eq : ∀ (e : List (Nat × Ob)) (k : List (Nat × Ob) → Prop), frcH e k = k e
 | [], k => rfl
 | (i, o) :: r, k => by
  unfold frcH
  rw [frcO_eq, frcH_eq r]
theorem frc_eq (K : St → Prop) (st : St) : frc K st = K st := by
 obtain ⟨e, h, n, r⟩ := st
 show (frcE e fun e => frcH h fun h => frcR r fun r => K ⟨e, h, n, r⟩) = _
 rw [frcE_eq, frcH_eq, frcR_eq]
def aops (cx : Cx) (ops : Array Oper) (K : St → Prop) : List Oper → St → Prop
 | [], st => frc K st
 | o :: r, st => frc (fun st => match o.guard with
  | none => aop cx o (aops cx ops K r) st
  | some (j, want) => match (ops[j]?).bind (·.dst) with
   | some t => match st.get t with
    | .v (.tv .bool b) => bif want then split st t b (aop cx o (aops cx ops K r)) (fun st => aops cx ops K r (st.put o.dst (.tup [])))
     else split st t b (fun st => aops cx ops K r (st.put o.dst (.tup []))) (aop cx o (aops cx ops K r))
    | .tup [] => aops cx ops K r (st.put o.dst (.tup []))
    | _ => False
   | none => False) st
theorem aops_nil {cx : Cx} {ops : Array Oper} {K : St → Prop} {st : St} : aops cx ops K [] st ↔ K st := by
 rw [← frc_eq K st]; exact Iff.rfl
def noOwn : List AV0 → Prop → Prop
 | [], k => k
 | .own _ _ _ :: _, _ => False
 | _ :: r, k => noOwn r k
def resK (d : Option Tmp) (K : AV × Option Ob → Prop) : List AV0 → Prop
 | .own e t xs :: r => match d with
  | some d => match r with
   | [] => K (.v (.row d), some (.row e t xs))
   | r => noOwn r (K (.tup (.row d :: r), some (.row e t xs)))
  | none => False
 | r => noOwn r (K (resAV r, none))
def pcallA (cx : Cx) (st : St) (d : Option Tmp) (f : FuncId) (as : List AV) (K : AV × Option Ob → Prop) : Prop :=
 bif cx.bor f then cx.call f (as.map (AV.argS st)) (fun res => flats res (K (resAV res, none)))
 else stat (as.flatMap AV.ids).isEmpty (cx.call f (as.map (AV.arg st.hp)) (resK d K))
def cloneA (cx : Cx) (st : St) (k : RowF) (e : TypeId) (d : Nat) (Ts : List TypeId) (as : List AV) (K : AV × Option Ob → Prop) : Prop := match k, Ts, as with
 | .clone, [T], [.v x] => (match cx.ty T, x.ro st.hp with
  | some (.sl e1 t), .tv (.sl e' t') ys => (match cast? (.sl e' t') (.sl e t) ys with
   | some ys => stat (Nat.beq e1 e) ((List.length ys ≤ 9223372036854775807 ∧ (List.length ys) * cx.bytes e ≤ 140737488355328) ∧ K (.v (.row d), some (.row e t ys)))
   | none => False)
  | _, _ => False)
 | _, _, _ => False
def appV (cx : Cx) (T : TypeId) (d : Nat) (x : AV0) (K : AV × Option Ob → Prop) : Prop := match cx.ty T, x with
 | some (.sl e t), .tv (.sl e' t') ys => (match cast? (.sl e' t') (.sl e t) ys with
  | some ys => (List.length ys ≤ 9223372036854775807 ∧ (List.length ys) * cx.bytes e ≤ 140737488355328) ∧ K (.v (.row d), some (.row e t ys))
  | none => False)
 | _, _ => False
def valA (cx : Cx) (o : Oper) (st : St) (K : AV × Option Ob → Prop) : Prop := match o.op with
 | .move x => K (opA cx st o.type x, none)
 | .assign x => match o.dst, x with
  | some d, .tmp i => (match st.get i with
   | .v (.row _) => False
   | a => stat (cx.pn d).isEmpty (K (a, none)))
  | some d, .const c => bif cx.nilrow d then (match cx.ty o.type, c with
   | some (.sl e t), .slice none 0 0 => K (.v (.row d), some (.row e t []))
   | _, _ => False) else K (opA cx st o.type x, none)
  | _, _ => K (opA cx st o.type x, none)
 | .alloc T => match o.dst, cx.ty T with
  | some d, some t => K (.v (.ptr d 0), some (.box T t t.zero))
  | _, _ => False
 | .box T x => match o.dst with
  | some d => stat (opA cx st T x).ids.isEmpty (boxOf cx st T (opA cx st T x) fun t y => K (.v (.ptr d 0), some (.box T t y)))
  | none => False
 | .buildSlice T n parts => match o.dst, cx.ty T with
  | some d, some (.sl e t) => stat (idsP (partsL st t parts.toList)).isEmpty (match fillL t (List.replicate n t.zero) (roP st.hp (partsL st t parts.toList)) with
   | some xs => stat (Nat.ble (n * t.size) 16777216) (K (.v (.row d), some (.row e t xs)))
   | none => False)
  | _, _ => False
 | .makeSlice T l c => match o.dst, cx.ty T, opA cx st 0 l, opA cx st 0 c with
  | some d, some (.sl e t), .v (.tv (.int _) n), .v (.tv (.int _) m) => (0 ≤ (n : Int) ∧ (n : Int) ≤ (m : Int) ∧ (m : Int) ≤ 9223372036854775807 ∧ (m : Int).toNat * cx.bytes e ≤ 140737488355328) ∧ K (.v (.row d), some (.row e t (List.replicate (n : Int).toNat t.zero)))
  | _, _, _, _ => False
 | .pick c a b => match opA cx st 0 c with
  | .v (.tv .bool c) => br c (K (opA cx st o.type a, none)) (K (opA cx st o.type b, none))
  | _ => False
 | .build T parts => match cx.ty T with
  | some t => bif t.isSt then stat (idsP (partsF st t parts.toList)).isEmpty (match fills t t.zero (roP st.hp (partsF st t parts.toList)) with
   | some x => K (.v (.tv t x), none)
   | none => False) else stat (arrI st parts.toList t).isEmpty (match arrV st parts.toList t with
   | some v => K (.v v, none)
   | none => False)
  | none => False
 | .load T a => one (opA cx st 0 a) fun a => loadA cx st T a fun v => K (.v v, none)
 | .nilCheck x => one (opA cx st 0 x) fun a => match a with
  | .rptr t y => K (.v (.rptr t y), none)
  | .ptr i f => (match fnd i st.hp with | some (.box _ _ _) => K (.v (.ptr i f), none) | _ => False)
  | .fn f => K (.v (.fn f), none)
  | _ => False
 | .binOp op T x y T' => one (opA cx st T x) fun x => one (opA cx st (yT op T T') y) fun y => binQ cx st.hp T op x y fun v => K (.v v, none)
 | .unOp op T x => one (opA cx st T x) fun x => unA op x fun v => K (.v v, none)
 | .convert S T x => one (opA cx st S x) fun x => convA cx S T (x.ro st.hp) fun v => K (.v v, none)
 | .slice T x lo hi none => bif isArr (cx.ty T) && lo.isNone && hi.isNone then one (opA cx st T x) fun x => arsV cx st T o.type (cx.win (o.dst.getD 0)) x fun v => K (.v v, none) else one (opA cx st T x) fun x => stat x.ids.isEmpty (sliceA cx T (x.ro st.hp) (lo.map fun l => (opA cx st 0 l).ro st.hp) (hi.map fun h => (opA cx st 0 h).ro st.hp) fun v => K (.v v, none))
 | .fieldAddr S x f => one (opA cx st 0 x) fun a => fieldAddrA cx st S a f fun v => K (.v v, none)
 | .field S x f => one (opA cx st S x) fun a => fieldA cx S a f fun v => K (.v v, none)
 | .indexAddr T x i => one (opA cx st T x) fun x => one (opA cx st 0 i) fun i => indexAddrA cx st T x i fun v => K (.v v, none)
 | .index T x i => one (opA cx st T x) fun x => one (opA cx st 0 i) fun i => indexA cx T x i fun v => K (.v v, none)
 | .extract t i => match opA cx st 0 t with
  | .tup l => (match l[i]? with
   | some x => K (.v x, none)
   | none => False)
  | _ => False
 | .call c => match c.callee with
  | .builtin .len => (match c.args.toList, c.argTypes.toList with
   | [x], [T] => one (opA cx st T x) fun x => lenA cx T x st.hp fun v => K (.v v, none)
   | _, _ => False)
  | .builtin .append => (match c.args.toList, c.argTypes.toList, o.dst with
   | [s, x], [T, T'], some d => stat (Nat.beq T' T) (stat (isNil s) (one (opA cx st T x) fun x => appV cx T d (x.ro st.hp) K))
   | _, _, _ => False)
  | .builtin .max => (match c.args.toList with
   | [x, y] => one (opA cx st o.type x) fun x => one (opA cx st o.type y) fun y => (match x, y with
    | .tv (.int k) x, .tv (.int k') y => stat (decide (k = k')) (K (.v (.tv (.int k) (maxInt x y)), none))
    | _, _ => False)
   | _ => False)
  | .builtin .min => (match c.args.toList with
   | [x, y] => one (opA cx st o.type x) fun x => one (opA cx st o.type y) fun y => (match x, y with
    | .tv (.int k) x, .tv (.int k') y => stat (decide (k = k')) (K (.v (.tv (.int k) (minInt x y)), none))
    | _, _ => False)
   | _ => False)
  | .value f => (match opA cx st 0 f with
   | .v (.fn f) => (match argsA cx st c.args.toList c.argTypes.toList with
    | some as => (match scOf (cx.scall f) as with
     | some _ => False
     | none => (match cx.rowf f, o.dst with
      | none, d => pcallA cx st d f as K
      | some (k, e), some d => cloneA cx st k e d c.argTypes.toList as K
      | some _, none => False))
    | none => False)
   | _ => False)
  | _ => False
 | _ => False
def eff (st : St) (d : Option Tmp) (v : AV) : Option Ob → St
 | none => st.put d v
 | some ob => match d with
  | some d => { env := setE st.n d v st.env, hp := ins d ob st.hp, n := st.n, rf := st.rf }
  | none => st
def AV0.refs : AV0 → List Nat
 | .row i => [i]
 | .ptr i _ => [i]
 | .elt i _ _ => [i]
 | .sub i _ _ => [i]
 | .bel i _ _ _ _ _ => [i]
 | .wbx i _ _ _ _ => [i]
 | .str _ _ rs => (rs.filter fun p => !Nat.beq p.2 0).map fun p => cId p.2
 | _ => []
def refsL : List AV0 → List Nat
 | [] => []
 | a :: r => a.refs ++ refsL r
def AV.refs : AV → List Nat
 | .v a => a.refs
 | .tup l => refsL l
def offL (fb : List Nat) : List Nat → Bool
 | [] => true
 | i :: r => match inL i fb with | true => false | false => offL fb r
def offV (fb : List Nat) (a : AV) : Bool := match fb with
 | [] => true
 | fb => offL fb a.refs
def offs (fb : List Nat) (st : St) : List Tmp → Bool
 | [] => true
 | t :: r => match offV fb (st.get t) with | true => offs fb st r | false => false
def noRef (d : Nat) : List (Nat × AV) → Bool
 | [] => true
 | (t, a) :: r => match Nat.beq t d || !inL d a.refs with | true => noRef d r | false => false
def noRefR (d : Nat) : List ((Nat × Nat) × AV0) → Bool
 | [] => true
 | p :: r => match Nat.beq p.1.1 d || inL d p.2.refs with | true => false | false => noRefR d r
def stepV (cx : Cx) (ops : Array Oper) (o : Oper) (fb : List Nat) (own : Bool) (K : St → Prop) (st : St) : Prop :=
 stat (match fb with | [] => true | fb => offs fb st (o.looksAt ops)) (valA cx o st fun p => stat ((own || p.2.isNone) && match fb, o.dst with | [], _ => true | fb, some d => offL fb (p.1.refs.filter fun i => !Nat.beq i d) | fb, none => offL fb p.1.refs) (K (eff st o.dst p.1 p.2)))
def pops (cx : Cx) (ops : Array Oper) (cr : List Nat) (K : St → Prop) : List (Nat × List Nat) → St → Prop
 | [], st => frc K st
 | (i, fb) :: r, st => frc (fun st => match ops[i]? with
  | some o => (match o.guard with
   | none => stepV cx ops o fb (inL i cr) (pops cx ops cr K r) st
   | some (j, want) => match (ops[j]?).bind (·.dst) with
    | some t => match st.get t with
     | .v (.tv .bool b) => bif want then split st t b (stepV cx ops o fb (inL i cr) (pops cx ops cr K r)) (fun st => pops cx ops cr K r (st.put o.dst (.tup [])))
      else split st t b (fun st => pops cx ops cr K r (st.put o.dst (.tup []))) (stepV cx ops o fb (inL i cr) (pops cx ops cr K r))
     | .tup [] => pops cx ops cr K r (st.put o.dst (.tup []))
     | _ => False
    | none => False)
  | none => False) st
def freshA (ops : Array Oper) (st : St) : List Nat → Bool
 | [] => true
 | i :: r => match (ops[i]?).bind (·.dst) with
  | some d => (match noRef d st.env && Nat.blt d st.n && noRefR d st.rf with | true => freshA ops st r | false => false)
  | none => false
def needsOf (o : Oper) : List Nat := (o.after.toList.filter (fun e => Region.binds .any e)).map (fun e => e.on)
def readyL (ops : Array Oper) (l : List Bool) : List Nat := (List.range ops.size).filter fun i => !l.getD i true && match ops[i]? with
 | some o => (needsOf o).all (fun j => l.getD j false)
 | none => false
def dstOf (ops : Array Oper) (i : Nat) : Option Nat := (ops[i]?).bind (·.dst)
def needI (ops : Array Oper) (i : Nat) : List Nat := match ops[i]? with | some o => needsOf o | none => []
def looksI (ops : Array Oper) (i : Nat) : List Nat := match ops[i]? with | some o => o.looksAt ops | none => []
def addL (I : List Nat) : List Nat → List Nat → List Nat
 | X, [] => X
 | X, j :: r => match inL j I && !inL j X with
  | true => addL I (j :: X) r
  | false => addL I X r
def covR (ops : Array Oper) (I : List Nat) : List Nat → List Nat → List Nat
 | [], X => X
 | i :: r, X => match inL i X with
  | true => covR ops I r (addL I X (needI ops i))
  | false => covR ops I r X
def cov (ops : Array Oper) (I : List Nat) (X : List Nat) : List Nat := covR ops I I.reverse X
def looksOK (ops : Array Oper) (i : Nat) : List Nat → Bool
 | [] => true
 | j :: r => (match dstOf ops j with | some d => !inL d (looksI ops i) || (inL j (needI ops i) && !Nat.beq j i) || (inL i (needI ops j) && !Nat.beq j i) | none => true) && looksOK ops i r
def chainOK (ops : Array Oper) (l : List Bool) : List Nat → List Nat → Bool
 | _, [] => true
 | pre, i :: r => (ops[i]?).isSome && !l.getD i true && (needI ops i).all (fun j => l.getD j false || inL j pre) && chainOK ops l (pre ++ [i]) r
def frontOK (ops : Array Oper) (l : List Bool) (I : List Nat) : Bool :=
 distinctL I && I.all (fun i => (dstOf ops i).isSome) && distinctL (I.filterMap (dstOf ops)) && I.all (fun i => looksOK ops i I) && chainOK ops l [] I &&
 (List.range ops.size).all (fun k => l.getD k true || inL k I || (needI ops k).any (fun j => !l.getD j false && !inL j I) || I.all (fun i => inL i (cov ops I ((needI ops k).filter (fun j => inL j I)))))
def setL (l : List Bool) : List Nat → List Bool
 | [] => l
 | i :: r => setL (l.set i true) r
inductive Tre where
 | fin
 | non
 | nd (i : Nat) (sub more : Tre)
inductive Stg where
 | any (cr : List Nat) (I : List (Nat × List Nat))
 | one (i : Nat)
 | fst (cr : List Nat) (I : List (Nat × List Nat)) (s : Nat)
 | app (cr : List Nat) (I : List (Nat × List Nat)) (s : Nat)
 | apg (cr : List Nat) (I : List (Nat × List Nat)) (s : Nat) (fb : List Nat)
 | sto (cr : List Nat) (I : List (Nat × List Nat)) (s : Nat)
 | frz (s : Nat)
 | tak (i : Nat)                                        -- but another name for something: it may come first
 | tre (c : List Nat) (t : Tre) (ks : List Nat)         -- any order of some, one by one: each comes to what the order c comes to (in the slots ks)
def treH : Tre → List Nat
 | .nd i _ more => i :: treH more
 | _ => []
def beqB : List Bool → List Bool → Bool
 | [], [] => true
 | true :: r, true :: r' => beqB r r'
 | false :: r, false :: r' => beqB r r'
 | _, _ => false
def treOK (ops : Array Oper) (fin : List Bool) : Bool → List Bool → Tre → Bool
 | _, l, .fin => beqB l fin
 | top, _, .non => !top
 | top, l, .nd i sub more => (!top || (readyL ops l).all (fun j => inL j (i :: treH more))) && (inL i (readyL ops l) && (treOK ops fin true (l.set i true) sub && treOK ops fin false l more))
def isOne (i : Nat) : List Nat → Bool
 | [j] => Nat.beq i j
 | _ => false
def forbOK (ops : Array Oper) (cr I : List Nat) (p : Nat × List Nat) : Bool :=
 cr.all fun j => match dstOf ops j with
  | some d => inL d p.2 || inL j (cov ops I ((needI ops p.1).filter (fun j => inL j I)))
  | none => false
def stoT (ops : Array Oper) (s : Nat) : Nat := match ops[s]? with
 | some o => (match o.op with | .store _ (.tmp t) _ => t | _ => 0)
 | none => 0
def fstOK (ops : Array Oper) (l : List Bool) (I : List (Nat × List Nat)) (s : Nat) : Bool :=
 let J := I.map (·.1)
 let C := cov ops J ((needI ops s).filter (fun j => inL j J))
 distinctL J && J.all (fun i => (dstOf ops i).isSome) && distinctL (J.filterMap (dstOf ops)) && J.all (fun i => looksOK ops i J) && chainOK ops l [] J &&
 (List.range ops.size).all (fun k => l.getD k true || inL k J || Nat.beq k s || (needI ops k).any (fun j => !l.getD j false && !inL j J && !Nat.beq j s) || (inL s (needI ops k) && J.all (fun i => inL i (cov ops J ((needI ops k).filter (fun j => inL j J)))))) &&
 (!inL s J && !(l.getD s true) && (ops[s]?).isSome && (needI ops s).all (fun j => l.getD j false || inL j J)) &&
 I.all (fun p => inL p.1 C || (inL (stoT ops s) p.2 && (match dstOf ops p.1 with | some d => !Nat.beq d (stoT ops s) | none => false))) &&
 J.all (fun j => inL j C || match dstOf ops j with | some d => !inL d (looksI ops s) | none => false)
def isMv (ops : Array Oper) (i : Nat) : Bool := match ops[i]? with
 | some o => (match o.op with | .move _ => true | _ => false)
 | none => false
def appOK (ops : Array Oper) (l : List Bool) (I : List (Nat × List Nat)) (s : Nat) : Bool := match dstOf ops s with
 | some d =>
  distinctL (I.map (·.1)) && (I.map (·.1)).all (fun i => (dstOf ops i).isSome) && distinctL (d :: (I.map (·.1)).filterMap (dstOf ops)) && (I.map (·.1)).all (fun i => looksOK ops i (I.map (·.1))) && chainOK ops l [] (I.map (·.1)) &&
  (List.range ops.size).all (fun k => l.getD k true || inL k (I.map (·.1)) || Nat.beq k s || (needI ops k).any (fun j => !l.getD j false && !inL j (I.map (·.1)) && !Nat.beq j s) || (inL s (needI ops k) && (I.map (·.1)).all (fun i => inL i (cov ops (I.map (·.1)) ((needI ops k).filter (fun j => inL j (I.map (·.1))))) || inL i (cov ops (I.map (·.1)) ((needI ops s).filter (fun j => inL j (I.map (·.1)))))))) &&
  (!inL s (I.map (·.1)) && !(l.getD s true) && (ops[s]?).isSome && (needI ops s).all (fun j => l.getD j false || inL j (I.map (·.1)))) &&
  (!inL d (looksI ops s) && I.all (fun p => inL d p.2 && (inL p.1 (cov ops (I.map (·.1)) ((needI ops s).filter (fun j => inL j (I.map (·.1))))) || !inL d (looksI ops p.1)))) &&
  (I.map (·.1)).all (fun j => inL j (cov ops (I.map (·.1)) ((needI ops s).filter (fun j => inL j (I.map (·.1))))) || match dstOf ops j with | some d => !inL d (looksI ops s) | none => false)
 | none => false
def stoOK (ops : Array Oper) (l : List Bool) (I : List (Nat × List Nat)) (s : Nat) : Bool :=
 distinctL (I.map (·.1)) && (I.map (·.1)).all (fun i => (dstOf ops i).isSome) && distinctL ((I.map (·.1)).filterMap (dstOf ops)) && (I.map (·.1)).all (fun i => looksOK ops i (I.map (·.1))) && chainOK ops l [] (I.map (·.1)) &&
 (List.range ops.size).all (fun k => l.getD k true || inL k (I.map (·.1)) || Nat.beq k s || (needI ops k).any (fun j => !l.getD j false && !inL j (I.map (·.1)) && !Nat.beq j s) || (inL s (needI ops k) && (I.map (·.1)).all (fun i => inL i (cov ops (I.map (·.1)) ((needI ops k).filter (fun j => inL j (I.map (·.1))))) || inL i (cov ops (I.map (·.1)) ((needI ops s).filter (fun j => inL j (I.map (·.1)))))))) &&
 (!inL s (I.map (·.1)) && !(l.getD s true) && (ops[s]?).isSome && (needI ops s).all (fun j => l.getD j false || inL j (I.map (·.1)))) &&
 (I.map (·.1)).all (fun j => inL j (cov ops (I.map (·.1)) ((needI ops s).filter (fun j => inL j (I.map (·.1))))) || match dstOf ops j with | some d => !inL d (looksI ops s) | none => false)
def planOK (ops : Array Oper) : List Bool → List Stg → Bool
 | l, [] => (readyL ops l).isEmpty
 | l, .any cr I :: r => frontOK ops l (I.map (·.1)) && cr.all (fun j => inL j (I.map (·.1))) && I.all (forbOK ops cr (I.map (·.1))) && planOK ops (setL l (I.map (·.1))) r
 | l, .one i :: r => isOne i (readyL ops l) && planOK ops (l.set i true) r
 | l, .frz _ :: r => planOK ops l r
 | l, .tak i :: r => isMv ops i && Region.free .any ops l.toArray i && inL i (readyL ops l) && planOK ops (l.set i true) r
 | l, .tre c t _ :: r => treOK ops (setL l c) true l t && planOK ops (setL l c) r
 | l, .sto cr I s :: r => stoOK ops l I s && cr.all (fun j => inL j (I.map (·.1))) && I.all (forbOK ops cr (I.map (·.1))) && planOK ops ((setL l (I.map (·.1))).set s true) r
 | l, .app cr I s :: r => appOK ops l I s && cr.all (fun j => inL j (I.map (·.1))) && I.all (forbOK ops cr (I.map (·.1))) && planOK ops ((setL l (I.map (·.1))).set s true) r
 | l, .apg cr I s fb :: r => appOK ops l I s && cr.all (fun j => inL j (I.map (·.1))) && I.all (forbOK ops cr (I.map (·.1))) &&
  (frontOK ops l ((I ++ [(s, fb)]).map (·.1)) && cr.all (fun j => inL j ((I ++ [(s, fb)]).map (·.1))) && (I ++ [(s, fb)]).all (forbOK ops cr ((I ++ [(s, fb)]).map (·.1)))) && planOK ops ((setL l (I.map (·.1))).set s true) r
 | l, .fst cr I s :: r => fstOK ops l I s && cr.all (fun j => inL j (I.map (·.1))) && I.all (forbOK ops cr (I.map (·.1))) && planOK ops ((setL l (I.map (·.1))).set s true) r
def appC (ops : Array Oper) (cr : List Nat) (I : List (Nat × List Nat)) (s id : Nat) : Bool :=
 I.all (fun p => inL p.1 (cov ops (I.map (·.1)) ((needI ops s).filter (fun j => inL j (I.map (·.1))))) || ((isMv ops p.1 || inL id p.2) && match dstOf ops p.1 with | some d => !Nat.beq d id | none => false))
def appM (ops : Array Oper) (I : List (Nat × List Nat)) (s : Nat) : Bool :=
 I.all (fun p => inL p.1 (cov ops (I.map (·.1)) ((needI ops s).filter (fun j => inL j (I.map (·.1))))) || isMv ops p.1)
def appF (ops : Array Oper) (cr : List Nat) (I : List (Nat × List Nat)) (s : Nat) : List Nat :=
 cr.filterMap fun c => bif inL c (cov ops (I.map (·.1)) ((needI ops s).filter (fun j => inL j (I.map (·.1))))) then none else dstOf ops c
def appChk (d id : Nat) (b : Bool) (X : Prop) : Prop := stat b X
def noTo (d : Nat) : List ((Nat × Nat) × AV0) → Bool
 | [] => true
 | p :: r => match inL d p.2.refs with | true => false | false => noTo d r
def stoE (cx : Cx) (o : Oper) (K : St → Prop) (st : St) : Prop := match o.op, o.dst, o.guard with
 | .store T (.tmp t) y, none, none => (match st.get t, opA cx st T y with
  | .v (.ptr id off), .v (.tv t'' x) => stat (Nat.beq id t) (stat (noTo t st.rf && !isNil y) (storeA cx st T (.ptr id off) (.tv t'' x) K))
  | _, _ => False)
 | _, _, _ => False
def stoK (cx : Cx) (ops : Array Oper) (s : Nat) (K : St → Prop) (st : St) : Prop := match ops[s]? with
 | some o => stoE cx o K st
 | none => False
def grd (ops : Array Oper) (st : St) : Option (Nat × Bool) → Bool
 | none => true
 | some (j, want) => match (ops[j]?).bind (·.dst) with
  | some t => (match st.get t with
   | .v (.tv .bool b) => bif want then b else !b
   | _ => false)
  | none => false
def appE (cx : Cx) (ops : Array Oper) (cr : List Nat) (I : List (Nat × List Nat)) (s : Nat) (K : St → Prop) (st : St) : Prop := match ops[s]? with
 | some o => (match o.op, o.dst with
  | .call c, some d => stat (grd ops st o.guard) (match c.callee, c.args.toList with
   | .builtin .append, [.tmp t, _] => (match st.get t with
    | .v (.row id) => stat (!Nat.beq id d && offs (appF ops cr I s) st (looksI ops s)) (appChk d id (appC ops cr I s id && (appM ops I s || noTo id st.rf)) (aop cx o K st))
    | _ => False)
   | _, _ => False)
  | _, _ => False)
 | none => False
def refOf : AV0 → Option Nat
 | .elt id _ _ => some id
 | .ptr id _ => some id
 | _ => none
def stoD (cx : Cx) (ops : Array Oper) (cr : List Nat) (I : List (Nat × List Nat)) (s : Nat) (K : St → Prop) (st : St) : Prop := match ops[s]? with
 | some o => (match o.op, o.dst, o.guard with
  | .store T (.tmp t) y, none, none => (match st.get t, opA cx st T y with
   | .v a, .v (.tv t'' x) => (match refOf a with
    | some id => stat (!isNil y && offs (appF ops cr I s) st (looksI ops s)) (appChk t id (appC ops cr I s id && (appM ops I s || noTo id st.rf)) (storeA cx st T a (.tv t'' x) K))
    | none => False)
   | _, _ => False)
  | _, _, _ => False)
 | none => False
def crun (cx : Cx) (ops : Array Oper) (K : St → Prop) : List Nat → St → Prop
 | [], st => K st
 | i :: r, st => match ops[i]? with
  | some o => aops cx ops (crun cx ops K r) [o] st
  | none => False
def trun (cx : Cx) (ops : Array Oper) (K : St → Prop) : Tre → St → Prop
 | .fin, st => K st
 | .non, _ => True
 | .nd i sub more, st => (match ops[i]? with | some o => aops cx ops (trun cx ops K sub) [o] st | none => False) ∧ trun cx ops K more st
def sameA (x y : AV0) (X : Prop) : Prop := match x, y with
 | .tv t x, .tv t' y => (match cast? t' t y with | some y => y = x ∧ X | none => False)
 | .rptr t x, .rptr t' y => (match cast? t' t y with | some y => y = x ∧ X | none => False)
 | .row i, .row j => stat (Nat.beq i j) X
 | .ptr i o, .ptr j p => stat (Nat.beq i j && Nat.beq o p) X
 | .wbx i o n e t, .wbx j p m f u => stat (Nat.beq i j && Nat.beq o p && Nat.beq n m && Nat.beq e f && Ty.beq t u) X
 | .fn f, .fn g => stat (Nat.beq f g) X
 | .nilp, .nilp => X
 | .un, _ => X
 | _, _ => False
def sameO (x : Ob) (y : Option Ob) (X : Prop) : Prop := match x, y with
 | .box T t x, some (.box T' t' y) => stat (Nat.beq T T') (match cast? t' t y with | some y => y = x ∧ X | none => False)
 | .row e t xs, some (.row e' t' ys) => stat (Nat.beq e e') (match cast? (.sl e t') (.sl e t) ys with | some ys => ys = xs ∧ X | none => False)
 | _, _ => False
def sameE (st : St) : List (Nat × AV) → Prop → Prop
 | [], X => X
 | (i, .v a) :: r, X => (match fndE i st.env with | .v b => sameA a b (sameE st r X) | .tup _ => False)
 | (_, .tup _) :: _, _ => False
def sameH (st : St) : List (Nat × Ob) → Prop → Prop
 | [], X => X
 | (i, o) :: r, X => sameO o (fnd i st.hp) (sameH st r X)
def sameR (st : St) : List ((Nat × Nat) × AV0) → Prop → Prop
 | [], X => X
 | (k, v) :: r, X => sameA v (fndR k.1 k.2 st.rf) (sameR st r X)
def sameS (z st : St) : Prop := stat (Nat.beq z.n st.n) (sameE st z.env (sameH st z.hp (sameR st z.rf True)))
def keepE (ks : List Nat) : List (Nat × AV) → List (Nat × AV)
 | [] => []
 | (i, .v a) :: r => bif inL i ks then (i, .v a) :: keepE ks r else keepE ks r
 | (_, .tup _) :: r => keepE ks r
def kpS (ks : List Nat) (st : St) : St := { st with env := keepE ks st.env }
def frzI (st : St) (s : Nat) : List Nat := bif Nat.ble 1000000 s then (match st.get (s - 1000000) with | .v (.ptr id 0) => [id] | _ => []) else (st.get s).ids
def arun (cx : Cx) (ops : Array Oper) (K : St → Prop) : List Stg → St → Prop
 | [], st => K st
 | .any cr I :: r, st => frc (fun st => stat (freshA ops st cr) (pops cx ops cr (arun cx ops K r) I st)) st
 | .one i :: r, st => match ops[i]? with
  | some o => aops cx ops (arun cx ops K r) [o] st
  | none => False
 | .sto cr I s :: r, st => frc (fun st => stat (freshA ops st cr) (pops cx ops cr (stoD cx ops cr I s (arun cx ops K r)) I st)) st
 | .app cr I s :: r, st => frc (fun st => stat (freshA ops st (s :: cr)) (pops cx ops cr (appE cx ops cr I s (arun cx ops K r)) I st)) st
 | .frz s :: r, st => frc (arun cx ops K r) (freezes st (frzI st s))
 | .tak i :: r, st => match ops[i]? with
  | some o => aops cx ops (arun cx ops K r) [o] st
  | none => False
 | .tre c t ks :: r, st => frc (fun st => crun cx ops (fun z => trun cx ops (sameS (kpS ks z)) t st ∧ arun cx ops K r (kpS ks z)) c st) st
 | .apg cr I s fb :: r, st => frc (fun st => match (ops[s]?).bind (·.guard) with
  | some (j, want) => match (ops[j]?).bind (·.dst) with
   | some t => match st.get t with
    | .v (.tv .bool b) => bif want then split st t b (fun st => stat (freshA ops st (s :: cr)) (pops cx ops cr (appE cx ops cr I s (arun cx ops K r)) I st)) (fun st => stat (freshA ops st cr) (pops cx ops cr (arun cx ops K r) (I ++ [(s, fb)]) st))
     else split st t b (fun st => stat (freshA ops st cr) (pops cx ops cr (arun cx ops K r) (I ++ [(s, fb)]) st)) (fun st => stat (freshA ops st (s :: cr)) (pops cx ops cr (appE cx ops cr I s (arun cx ops K r)) I st))
    | .tup [] => stat (freshA ops st cr) (pops cx ops cr (arun cx ops K r) (I ++ [(s, fb)]) st)
    | _ => False
   | none => False
  | none => False) st
 | .fst cr I s :: r, st => frc (fun st => stat (freshA ops st cr) (pops cx ops cr (stoK cx ops s (arun cx ops K r)) I st)) st
inductive AE where
 | normal
 | exit (id : Nat)
 | ret
structure Weak (st1 st : St) : Prop where
 len : st1.n = st.n
 env : ∀ i, st1.get i = .v .un ∨ st1.get i = st.get i
 hp : ∀ i o, fnd i st1.hp = some o → fnd i st.hp = some o
 rf : ∀ i o, fndR i o st1.rf = .un ∨ fndR i o st1.rf = fndR i o st.rf
def lkey : Code → Nat
 | .region id _ _ => id
 | .seq x _ => lkey x
 | .cond _ x _ => lkey x
 | .block _ c => lkey c
 | .loop c => lkey c
 | _ => 0
def rkey : Code → Nat
 | .region id _ _ => 2 * (id + 1)
 | .seq x y => match rkey y with
  | 0 => match rkey x with
   | 0 => 0
   | k => 2 * k + 1
  | k => k
 | .cond _ x y => match rkey x with
  | 0 => match rkey y with
   | 0 => 0
   | k => 2 * k + 1
  | k => 2 * k + 1
 | .block _ c => match rkey c with
  | 0 => 0
  | k => 2 * k + 1
 | .loop c => match rkey c with
  | 0 => 0
  | k => 2 * k + 1
 | _ => 0
def AE.beq : AE → AE → Bool
 | .normal, .normal => true
 | .exit i, .exit j => Nat.beq i j
 | .ret, .ret => true
 | _, _ => false
structure Cuts where
 lp : List (Nat × (St → (AE → St → Prop) → Prop))
 jn : List (Nat × (St → (AE → St → Prop) → Prop))
 ex : List (AE × Sk)
 pl : List (Nat × List Stg)
 rf : List (Nat × ((E : List (Bool × Ty)) → List (itD E) → St → (AE → St → Prop) → Prop)) := []
def look (k : Nat) : List (Nat × (St → (AE → St → Prop) → Prop)) → Option (St → (AE → St → Prop) → Prop)
 | [] => none
 | p :: r => bif Nat.beq p.1 k then some p.2 else look k r
def lookRng (k : Nat) : List (Nat × ((E : List (Bool × Ty)) → List (itD E) → St → (AE → St → Prop) → Prop)) → Option ((E : List (Bool × Ty)) → List (itD E) → St → (AE → St → Prop) → Prop)
 | [] => none
 | p :: r => bif Nat.beq p.1 k then some p.2 else lookRng k r
def noJ (l : List (Nat × (St → (AE → St → Prop) → Prop))) : Code → Bool
 | .seq x y => (look (rkey x) l).isNone && (noJ l x && noJ l y)
 | .cond _ x y => noJ l x && noJ l y
 | .block _ c => noJ l c
 | .loop c => noJ l c
 | .rangeFunc _ _ x y => noJ l x && noJ l y
 | _ => true
def seqK (rest : (AE → St → Prop) → St → Prop) (Q : AE → St → Prop) : AE → St → Prop := fun e s => match e with
 | .normal => rest Q s
 | e => Q e s
def blkK (id : Nat) (Q : AE → St → Prop) : AE → St → Prop := fun e s => match e with
 | .exit i => bif Nat.beq i id then Q .normal s else Q (.exit i) s
 | e => Q e s
def joined (S : Option (St → (AE → St → Prop) → Prop)) (U : AE → St → Prop) (rest : (AE → St → Prop) → St → Prop) (Q : AE → St → Prop) (s : St) : Prop := match S with
 | some S => S s U
 | none => rest Q s
def lookP (k : Nat) : List (Nat × List Stg) → Option (List Stg)
 | [] => none
 | p :: r => bif Nat.beq p.1 k then some p.2 else lookP k r
def plansOK (ct : Cuts) : Code → Bool
 | .region id ops true => match lookP id ct.pl with
  | some p => Region.noSelect ops && planOK ops (List.replicate ops.size false) p
  | none => true
 | .seq x y => plansOK ct x && plansOK ct y
 | .cond _ x y => plansOK ct x && plansOK ct y
 | .block _ c => plansOK ct c
 | .loop c => plansOK ct c
 | .rangeFunc _ _ x y => plansOK ct x && plansOK ct y
 | _ => true
def awp (cx : Cx) (ct : Cuts) : Code → (U : AE → St → Prop) → (AE → St → Prop) → St → Prop
 | .skip, _, Q, st => Q .normal st
 | .region _ ops false, _, Q, st => aops cx ops (Q .normal) ops.toList st
 | .region id ops true, _, Q, st => match lookP id ct.pl with
  | some p => arun cx ops (Q .normal) p st
  | none => False
 | .seq x y, U, Q, st => awp cx ct x U (seqK (joined (look (rkey x) ct.jn) U (awp cx ct y U)) Q) st
 | .cond c x y, U, Q, st => match c with
  | .tmp t => (match st.get t with
   | .v (.tv .bool b) => split st t b (awp cx ct x U Q) (awp cx ct y U Q)
   | _ => False)
  | .const (.bool true) => awp cx ct x U Q st
  | .const (.bool false) => awp cx ct y U Q st
  | _ => False
 | .block id c, U, Q, st => awp cx ct c U (blkK id Q) st
 | .loop c, _, Q, st => match look (lkey c) ct.lp with
  | some S => S st Q
  | none => False
 | .exit id, _, Q, st => Q (.exit id) st
 | .ret, _, Q, st => Q .ret st
 | .rangeFunc g _ _ b, _, Q, st => match opA cx st 0 g with
  | .v (.clo f t x) => (match cx.it f with
   | some It => (match cast? t It.t x with
    | some x => (match lookRng (lkey b) ct.rf with
     | some S => S It.E (It.L x) st Q
     | none => False)
    | none => False)
   | none => False)
  | _ => False
 | _, _, _, _ => False
def can : List (AE × Sk) → (AE → St → Prop) → AE → St → Prop
 | [], _, _, _ => False
 | (a, k) :: r, Q, e, s => bif AE.beq a e then k.as s fun x => Q a (k.mk' x) else can r Q e s
def lpQ (sk : Sk) (X : sk.D → Prop) (exs : List (AE × Sk)) (Q : AE → St → Prop) : AE → St → Prop := fun e s => match e with
 | .normal => sk.as s X
 | e => can exs Q e s
structure Jn where
 key : Nat
 code : Code
 cont : (AE → St → Prop) → AE → St → Prop
 lp : Option Nat
def jns (cx : Cx) (ct : Cuts) : Code → Option Nat → ((AE → St → Prop) → AE → St → Prop) → List Jn
 | .seq x y, k, C => jns cx ct x k (fun U => seqK (joined (look (rkey x) ct.jn) U (awp cx ct y U)) (C U)) ++ (⟨rkey x, y, C, k⟩ :: jns cx ct y k C)
 | .cond _ x y, k, C => jns cx ct x k C ++ jns cx ct y k C
 | .block id c, k, C => jns cx ct c k (fun U => blkK id (C U))
 | .loop c, _, _ => jns cx ct c (some (lkey c)) (fun U => U)
 | _, _, _ => []
def lps : Code → List Code
 | .seq x y => lps x ++ lps y
 | .cond _ x y => lps x ++ lps y
 | .block _ c => lps c
 | .loop c => c :: lps c
 | .rangeFunc _ _ x y => lps x ++ lps y
 | _ => []
def ownRes (st : St) (a : AV0) (K : AV0 → Prop) : Prop := match a with
 | .row id => (match fnd id st.hp with
  | some (.row e t xs) => K (.own e t xs)
  | _ => False)
 | .tv t x => K (.tv t x)
 | _ => False
def tvK (K : AV0 → Prop) : AV0 → Prop
 | .tv t x => K (.tv t x)
 | _ => False
def resA (cx : Cx) (st : St) : ResultVar → (AV0 → Prop) → Prop
 | .tmp t, K => one (st.get t) fun a => bif cx.own then ownRes st a K else K (a.arg st.hp)
 | .cell a T, K => one (st.get a) fun a => loadA cx st T a (tvK K)
def ressA (cx : Cx) (st : St) : List ResultVar → (List AV0 → Prop) → Prop
 | [], K => K []
 | r :: rs, K => resA cx st r fun a => ressA cx st rs fun l => K (a :: l)
def initA (n : Nat) (args : List AV0) : St := { env := initE 0 args, hp := [], n := args.length + (n - args.length), rf := [] }
def endK (cx : Cx) (fn : Func) (K : List AV0 → Prop) : AE → St → Prop := fun e st => match e with
 | .exit _ => False
 | _ => ressA cx st fn.results.toList K
def fnK (cx : Cx) (ct : Cuts) (fn : Func) (K : List AV0 → Prop) : AE → St → Prop := match ct.ex with
 | [] => endK cx fn K
 | l => can l (endK cx fn K)
def fnA (cx : Cx) (ct : Cuts) (fn : Func) (args : List AV0) (K : List AV0 → Prop) : Prop := match fn.body with
 | some c => awp cx ct c (fnK cx ct fn K) (fnK cx ct fn K) (initA fn.ntmps args)
 | none => False
def resSA (cx : Cx) (st : St) : ResultVar → (AV0 → Prop) → Prop
 | .tmp t, K => one (st.get t) K
 | .cell a T, K => one (st.get a) fun a => loadA cx st T a (tvK K)
def ressSA (cx : Cx) (st : St) : List ResultVar → (List AV0 → Prop) → Prop
 | [], K => K []
 | r :: rs, K => resSA cx st r fun a => ressSA cx st rs fun l => K (a :: l)
def renTo (inn : Sk) (id d : Nat) (st : St) : St := bif Nat.beq id d then st else match pinS inn d with
 | true => st
 | false => (match fnd id st.hp with | some _ => st.ren0 id d | none => st)
def canE (inn : Sk) : List (Nat × SkV) → St → St
 | [], st => st
 | (i, .row d) :: r, st => (match fndE i st.env with | .v (.row id) => canE inn r (renTo inn id d st) | _ => canE inn r st)
 | (i, .ptr d _) :: r, st => (match fndE i st.env with | .v (.ptr id _) => canE inn r (renTo inn id d st) | _ => canE inn r st)
 | (i, .wbx d _ _ _ _) :: r, st => (match fndE i st.env with | .v (.wbx id _ _ _ _) => canE inn r (renTo inn id d st) | _ => canE inn r st)
 | _ :: r, st => canE inn r st
def canR (inn : Sk) : List ((Nat × Nat) × Nat) → St → St
 | [], st => st
 | p :: r, st => (match fndR p.1.1 p.1.2 st.rf with
  | .row id => canR inn r (renTo inn id (cId p.2) st)
  | .ptr id _ => canR inn r (renTo inn id (cId p.2) st)
  | _ => canR inn r st)
def outS (inn out : Sk) (l : List AV0) (st : St) : St := canR inn out.rf (canE inn out.env { env := initE 0 l, hp := st.hp, n := l.length, rf := st.rf })
def endS (cx : Cx) (fn : Func) (inn : Sk) (out : Nat → Sk) (J : (i : Nat) → (out i).D → Prop) : AE → St → Prop := fun e st => match e with
 | .exit _ => False
 | _ => ressSA cx st fn.results.toList fun l => (out (shp l)).as (outS inn (out (shp l)) l st) (J (shp l))
def fnKS (cx : Cx) (ct : Cuts) (fn : Func) (inn : Sk) (out : Nat → Sk) (J : (i : Nat) → (out i).D → Prop) : AE → St → Prop := match ct.ex with
 | [] => endS cx fn inn out J
 | l => can l (endS cx fn inn out J)
def iniS (inn : Sk) (m : Nat) (x : inn.D) : St := { inn.mk' x with n := inn.n + (m - inn.n) }
def fnAS (cx : Cx) (ct : Cuts) (fn : Func) (inn : Sk) (out : Nat → Sk) (x : inn.D) (J : (i : Nat) → (out i).D → Prop) : Prop := match fn.body with
 | some c => awp cx ct c (fnKS cx ct fn inn out J) (fnKS cx ct fn inn out J) (iniS inn fn.ntmps x)
 | none => False
def slotsL (st : St) : Nat → Nat → List AV0
 | 0, _ => []
 | k + 1, i => (match st.get i with | .v a => a | .tup _ => .un) :: slotsL st k (i + 1)
def putI : List Nat → List AV0 → St → St
 | p :: ps, y :: ys, st => putI ps ys (st.put (some p) (.v y))
 | _, _, st => st
def lookX (e : AE) : List (AE × Sk) → Option Sk
 | [] => none
 | p :: r => bif AE.beq p.1 e then some p.2 else lookX e r
def rndK (inn : Sk) (outs : List (AE × Sk)) (ρ : List (Nat × Nat)) (st : St) (K : AE → St → Prop) : AE → St → Prop := fun e s => match lookX e outs with
 | some out => stat (okS ⟨inn, out⟩ ρ [] st.n && Nat.beq out.n 0) (out.as (outS inn out [] s) fun y => K e (backS ⟨inn, out⟩ ρ st (out.mk' y)))
 | none => False
def rndA (cx : Cx) (ct : Cuts) (inn : Sk) (outs : List (AE × Sk)) (a b : Code) (ps : List Nat) (y : List AV0) (K : AE → St → Prop) (st : St) : Prop := match bindS inn st (slotsL st st.n 0) with
 | some ρ => stat (okI inn ρ st.n && Nat.beq ps.length y.length) (inn.as (subS inn st ρ (slotsL st st.n 0)) fun x =>
  awp cx ct a (fun _ _ => False) (fun e s => match e with
   | .normal => awp cx ct b (rndK inn outs ρ st K) (rndK inn outs ρ st K) s
   | _ => False) (putI ps y (inn.mk' x)))
 | none => False
def stOK (inn : Sk) (fn : Func) : Bool := inn.hp.all fun p => match pinS inn p.1 with
 | true => Nat.ble (inn.n + fn.ntmps) p.1 && Nat.ble fn.results.size p.1
 | false => true
end Go.Iv
