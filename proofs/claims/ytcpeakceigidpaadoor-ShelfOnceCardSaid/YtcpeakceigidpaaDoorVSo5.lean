/- The program's functions do what the plain ones do. -/
import Derived.Test.YtcpeakceigidpaaDoorVSo4
set_option linter.all false
namespace Go.Iw
open Go.Iv Go.Proofs
attribute [local irreducible] fnA fnAS awp
set_option maxHeartbeats 4000000
set_option maxRecDepth 100000
def LA.l4xr : Sk := ⟨[], 49, [(8, .var .bool)], [(1000, .box 117 tMapH), (12, .row 4 .bool)], [((1000, 0), 25)]⟩
def LA.l4xe0 : Sk := ⟨[], 49, [(0, .ptr 1000 0), (1, .var (.int .i64)), (2, .var (.int .i64)), (3, .var .bool)], [(1000, .box 117 tMapH), (12, .row 4 .bool)], [((1000, 0), 25)]⟩
def LA.l10xe2 : Sk := ⟨[], 49, [], [(1000, .box 117 tMapH), (12, .row 4 .bool)], [((1000, 0), 25)]⟩
def LA.l4.k : Sk := ⟨[], 49, [(0, .ptr 1000 0), (1, .var (.int .i64)), (2, .var (.int .i64)), (3, .var .bool), (25, .sub 12), (26, .var (.int .i64)), (27, .var (.int .i64))], [(1000, .box 117 tMapH), (12, .row 4 .bool)], [((1000, 0), 25)]⟩
def LA.l10.k : Sk := ⟨[], 49, [(0, .ptr 1000 0), (1, .var (.int .i64)), (3, .var .bool), (35, .var (.int .i64)), (36, .var (.int .i64))], [(1000, .box 117 tMapH), (12, .row 4 .bool)], [((1000, 0), 25)]⟩
def LA.l4.ex : List (AE × Sk) := [(.ret, LA.l4xr), ((.exit 0), LA.l4xe0)]
def LA.l4.X (Q : AE → St → Prop) (n : Nat) (x : Int × Int × Bool × (Nat × Nat) × Int × Int × MapH × (List Bool) × Unit) : Prop := LA.l4 (fun t8 ot1000 ot12 => Q .ret (LA.l4xr.mk' (t8, ot1000, ot12, ()))) (fun at1 n2 taken3 ot1000 ot12 => Q (.exit 0) (LA.l4xe0.mk' (at1, n2, taken3, ot1000, ot12, ()))) n x.1 x.2.1 x.2.2.1 x.2.2.2.1 x.2.2.2.2.1 x.2.2.2.2.2.1 x.2.2.2.2.2.2.1 x.2.2.2.2.2.2.2.1
def LA.l10.ex : List (AE × Sk) := [((.exit 2), LA.l10xe2)]
def LA.l10.X (Q : AE → St → Prop) (n : Nat) (x : Int × Bool × Int × Int × MapH × (List Bool) × Unit) : Prop := LA.l10 (fun ot1000 ot12 => Q (.exit 2) (LA.l10xe2.mk' (ot1000, ot12, ()))) n x.1 x.2.1 x.2.2.1 x.2.2.2.1 x.2.2.2.2.1 x.2.2.2.2.2.1
def LA.ct : Cuts := { lp := [(4, fun st Q => LA.l4.k.as st fun x => ∃ n, LA.l4.X Q n x), (10, fun st Q => LA.l10.k.as st fun x => ∃ n, LA.l10.X Q n x)], jn := [], ex := [], pl := [] }
def LA.cx : Cx := cxOf tyLH byL ptrL borL rowL false [(75, NB.F)] [] [25] [] [] glL [] tyR [(1000, [(0, 12)])] []
def LA.us : List (Nat × ((AE → St → Prop) → AE → St → Prop)) := []
theorem LA.l4.eq (Q : AE → St → Prop) (n : Nat) (x : LA.l4.k.D) : LA.l4.X Q (n + 1) x = awp LA.cx LA.ct (lpAt 4 Tryd.f63) (lpQ LA.l4.k (LA.l4.X Q n) LA.l4.ex Q) (lpQ LA.l4.k (LA.l4.X Q n) LA.l4.ex Q) (LA.l4.k.mk' x) := by kernel_rfl
theorem LA.l4.lp : LpOk LA.cx LA.ct (usOf LA.ct.ex LA.us) (lpAt 4 Tryd.f63) := lp_gen 4 (by kernel_rfl) LA.l4.k LA.l4.ex LA.l4.X (by kernel_rfl) (by intro Q x; kernel_rfl) LA.l4.eq (fun _ _ => trivial)
theorem LA.l10.eq (Q : AE → St → Prop) (n : Nat) (x : LA.l10.k.D) : LA.l10.X Q (n + 1) x = awp LA.cx LA.ct (lpAt 10 Tryd.f63) (lpQ LA.l10.k (LA.l10.X Q n) LA.l10.ex Q) (lpQ LA.l10.k (LA.l10.X Q n) LA.l10.ex Q) (LA.l10.k.mk' x) := by kernel_rfl
theorem LA.l10.lp : LpOk LA.cx LA.ct (usOf LA.ct.ex LA.us) (lpAt 10 Tryd.f63) := lp_gen 10 (by kernel_rfl) LA.l10.k LA.l10.ex LA.l10.X (by kernel_rfl) (by intro Q x; kernel_rfl) LA.l10.eq (fun _ _ => trivial)
def LA.inn : Sk := ⟨[], 4, [(0, .ptr 1000 0), (1, .var (.int .i64)), (2, .var (.int .i64)), (3, .var .bool)], [(1000, .box 117 tMapH), (12, .row 4 .bool)], [((1000, 0), 25)]⟩
def LA.out0 : Sk := ⟨[], 1, [(0, .var .bool)], [(12, .row 4 .bool), (1000, .box 117 tMapH)], [((1000, 0), 25)]⟩
def LA.outs : Nat → Sk := fun i => lkSk i [(0, LA.out0)]
def LA.S : SFn := ⟨LA.inn, LA.outs, fun (x : Int × Int × Bool × MapH × (List Bool) × Unit) (J : (i : Nat) → (LA.outs i).D → Prop) => LA x.1 x.2.1 x.2.2.1 x.2.2.2.1 x.2.2.2.2.1 (fun r0 ot12 ot1000 => J 0 ((r0, ot12, ot1000, ()) : Bool × (List Bool) × MapH × Unit))⟩
theorem LA.eq (x : LA.inn.D) (J : (i : Nat) → (LA.outs i).D → Prop) : LA.S.F x J = fnAS LA.cx LA.ct Tryd.f63 LA.inn LA.outs x J := by kernel_rfl
theorem LA.good : Go.Iv.SOK Tryd.prog 63 LA.S := goodS_gen (us := LA.us) (cxOk baseH rows (l := [(75, NB.F)]) (scL := []) ⟨NB.good, trivial⟩ trivial glOk rtOk) Tryd.func63 (by kernel_rfl) (by kernel_rfl) (S := LA.S) LA.eq (by kernel_rfl) (by kernel_rfl) (by kernel_rfl) (L := [lpAt 4 Tryd.f63, lpAt 10 Tryd.f63]) (M := []) (by kernel_rfl) (by kernel_rfl) ⟨LA.l4.lp, LA.l10.lp, trivial⟩ trivial
def CB.ct : Cuts := { lp := [], jn := [], ex := [], pl := [] }
def CB.cx : Cx := cxOf tyLH byL ptrL borL rowL false [] [] [] [(63, LA.S)] [] glL [] tyR [(1000, [(0, 7)])] []
def CB.us : List (Nat × ((AE → St → Prop) → AE → St → Prop)) := []
def CB.inn : Sk := ⟨[], 3, [(0, .ptr 1000 0), (1, .var (.int .i64)), (2, .var (.int .i64))], [(1000, .box 117 tMapH), (7, .row 4 .bool)], [((1000, 0), 15)]⟩
def CB.out0 : Sk := ⟨[], 1, [(0, .var .bool)], [(7, .row 4 .bool), (1000, .box 117 tMapH)], [((1000, 0), 15)]⟩
def CB.outs : Nat → Sk := fun i => lkSk i [(0, CB.out0)]
def CB.S : SFn := ⟨CB.inn, CB.outs, fun (x : Int × Int × MapH × (List Bool) × Unit) (J : (i : Nat) → (CB.outs i).D → Prop) => CB x.1 x.2.1 x.2.2.1 x.2.2.2.1 (fun r0 ot7 ot1000 => J 0 ((r0, ot7, ot1000, ()) : Bool × (List Bool) × MapH × Unit))⟩
theorem CB.eq (x : CB.inn.D) (J : (i : Nat) → (CB.outs i).D → Prop) : CB.S.F x J = fnAS CB.cx CB.ct Tryd.f37 CB.inn CB.outs x J := by kernel_rfl
theorem CB.good : Go.Iv.SOK Tryd.prog 37 CB.S := goodS_gen (us := CB.us) (cxOk baseH rows (l := []) (scL := [(63, LA.S)]) trivial ⟨LA.good, trivial⟩ glOk rtOk) Tryd.func37 (by kernel_rfl) (by kernel_rfl) (S := CB.S) CB.eq (by kernel_rfl) (by kernel_rfl) (by kernel_rfl) (L := []) (M := []) (by kernel_rfl) (by kernel_rfl) trivial trivial
def SB.ct : Cuts := { lp := [], jn := [], ex := [], pl := [(1, [.one 0, .one 1, .one 2, .any [] [(3, []), (4, []), (5, []), (6, []), (7, []), (8, []), (9, []), (10, [])]])] }
def SB.cx : Cx := cxOf tyL byL ptrL borL rowL false [] [] [] [] [] glL [] tyR [] []
def SB.us : List (Nat × ((AE → St → Prop) → AE → St → Prop)) := []
def SB.ps : List PS := [.rp tslot, .rp (.arr 32 (.int .u8))]
def SB.G (x : slot × (List Int) × Unit) (J : List AV0 → Prop) : Prop := SB x.1 x.2.1 (fun r0 => J [.tv .bool r0])
def SB.F : List AV0 → (List AV0 → Prop) → Prop := byPs SB.ps SB.G
theorem SB.eq (x : psD SB.ps) (J : List AV0 → Prop) : SB.G x J = fnA SB.cx SB.ct Tryd.f58 (psMk SB.ps x) J := by kernel_rfl
theorem SB.good : Go.Iv.Good Tryd.prog 58 SB.F := good_gen (us := SB.us) (cxOk base rows (l := []) (scL := []) trivial trivial glOk rtOk) Tryd.func58 (by kernel_rfl) (by kernel_rfl) SB.ps SB.G SB.eq (by kernel_rfl) (by kernel_rfl) (L := []) (M := []) (by kernel_rfl) (by kernel_rfl) trivial trivial
def UB.ct : Cuts := { lp := [], jn := [], ex := [], pl := [(1, [.one 0, .one 1, .one 2, .any [] [(3, []), (4, []), (5, []), (6, []), (7, []), (8, []), (9, []), (10, [])]])] }
def UB.cx : Cx := cxOf tyL byL ptrL borL rowL false [] [] [] [] [] glL [] tyR [] []
def UB.us : List (Nat × ((AE → St → Prop) → AE → St → Prop)) := []
def UB.ps : List PS := [.nil, .rp (.arr 32 (.int .u8))]
def UB.G (x : (List Int) × Unit) (J : List AV0 → Prop) : Prop := UB x.1 (fun r0 => J [.tv .bool r0])
def UB.F : List AV0 → (List AV0 → Prop) → Prop := byPs UB.ps UB.G
theorem UB.eq (x : psD UB.ps) (J : List AV0 → Prop) : UB.G x J = fnA UB.cx UB.ct Tryd.f58 (psMk UB.ps x) J := by kernel_rfl
theorem UB.good : Go.Iv.Good Tryd.prog 58 UB.F := good_gen (us := UB.us) (cxOk base rows (l := []) (scL := []) trivial trivial glOk rtOk) Tryd.func58 (by kernel_rfl) (by kernel_rfl) UB.ps UB.G UB.eq (by kernel_rfl) (by kernel_rfl) (L := []) (M := []) (by kernel_rfl) (by kernel_rfl) trivial trivial
def QA.l2xr : Sk := ⟨[], 19, [(4, .var (.int .i64))], [], []⟩
def QA.l2xe0 : Sk := ⟨[], 19, [], [], []⟩
def QA.l2.k : Sk := ⟨[], 19, [(0, .var (.sl 69 (.op tslot))), (1, .clo 58 (.arr 32 (.int .u8))), (7, .var (.int .i64)), (8, .var (.int .i64))], [], []⟩
def QA.l2.ex : List (AE × Sk) := [(.ret, QA.l2xr), ((.exit 0), QA.l2xe0)]
def QA.l2.X (Q : AE → St → Prop) (n : Nat) (x : (List (Option slot)) × (List Int) × Int × Int × Unit) : Prop := QA.l2 (fun t4 => Q .ret (QA.l2xr.mk' (t4, ()))) (Q (.exit 0) (QA.l2xe0.mk' ())) n x.1 x.2.1 x.2.2.1 x.2.2.2.1
def QA.ct : Cuts := { lp := [(2, fun st Q => QA.l2.k.as st fun x => ∃ n, QA.l2.X Q n x)], jn := [], ex := [], pl := [] }
def QA.cx : Cx := cxOf tyLH byL ptrL borL rowL false [(58, orP UB.F SB.F)] [] [] [] [] glL [] tyR [] []
def QA.us : List (Nat × ((AE → St → Prop) → AE → St → Prop)) := []
theorem QA.l2.eq (Q : AE → St → Prop) (n : Nat) (x : QA.l2.k.D) : QA.l2.X Q (n + 1) x = awp QA.cx QA.ct (lpAt 2 Tryd.f57) (lpQ QA.l2.k (QA.l2.X Q n) QA.l2.ex Q) (lpQ QA.l2.k (QA.l2.X Q n) QA.l2.ex Q) (QA.l2.k.mk' x) := by kernel_rfl
theorem QA.l2.lp : LpOk QA.cx QA.ct (usOf QA.ct.ex QA.us) (lpAt 2 Tryd.f57) := lp_gen 2 (by kernel_rfl) QA.l2.k QA.l2.ex QA.l2.X (by kernel_rfl) (by intro Q x; kernel_rfl) QA.l2.eq (fun _ _ => trivial)
def QA.ps : List PS := [.t (.sl 69 (.op tslot)), .clo 58 (.arr 32 (.int .u8))]
def QA.G (x : (List (Option slot)) × (List Int) × Unit) (J : List AV0 → Prop) : Prop := QA x.1 x.2.1 (fun r0 => J [.tv (.int .i64) r0])
def QA.F : List AV0 → (List AV0 → Prop) → Prop := byPs QA.ps QA.G
theorem QA.eq (x : psD QA.ps) (J : List AV0 → Prop) : QA.G x J = fnA QA.cx QA.ct Tryd.f57 (psMk QA.ps x) J := by kernel_rfl
theorem QA.good : Go.Iv.Good Tryd.prog 57 QA.F := good_gen (us := QA.us) (cxOk baseH rows (l := [(58, orP UB.F SB.F)]) (scL := []) ⟨(UB.good.orP SB.good), trivial⟩ trivial glOk rtOk) Tryd.func57 (by kernel_rfl) (by kernel_rfl) QA.ps QA.G QA.eq (by kernel_rfl) (by kernel_rfl) (L := [lpAt 2 Tryd.f57]) (M := []) (by kernel_rfl) (by kernel_rfl) ⟨QA.l2.lp, trivial⟩ trivial
def HB.ct : Cuts := { lp := [], jn := [], ex := [], pl := [] }
def HB.cx : Cx := cxOf tyLH byL ptrL borL rowL false [(57, QA.F)] [] [] [] [] glL [] tyR [] []
def HB.us : List (Nat × ((AE → St → Prop) → AE → St → Prop)) := []
def HB.ps : List PS := [.rp tShelf, .t (.arr 32 (.int .u8))]
def HB.G (x : Shelf × (List Int) × Unit) (J : List AV0 → Prop) : Prop := HB x.1 x.2.1 (fun r0 => J [.tv (.int .i64) r0])
def HB.F : List AV0 → (List AV0 → Prop) → Prop := byPs HB.ps HB.G
theorem HB.eq (x : psD HB.ps) (J : List AV0 → Prop) : HB.G x J = fnA HB.cx HB.ct Tryd.f30 (psMk HB.ps x) J := by kernel_rfl
theorem HB.good : Go.Iv.Good Tryd.prog 30 HB.F := good_gen (us := HB.us) (cxOk baseH rows (l := [(57, QA.F)]) (scL := []) ⟨QA.good, trivial⟩ trivial glOk rtOk) Tryd.func30 (by kernel_rfl) (by kernel_rfl) HB.ps HB.G HB.eq (by kernel_rfl) (by kernel_rfl) (L := []) (M := []) (by kernel_rfl) (by kernel_rfl) trivial trivial
def RA.l2xr : Sk := ⟨[], 19, [(4, .var (.int .i64))], [], []⟩
def RA.l2xe0 : Sk := ⟨[], 19, [], [], []⟩
def RA.l2.k : Sk := ⟨[], 19, [(0, .var (.sl 69 (.op tslot))), (1, .nilp), (7, .var (.int .i64)), (8, .var (.int .i64))], [], []⟩
def RA.l2.ex : List (AE × Sk) := [(.ret, RA.l2xr), ((.exit 0), RA.l2xe0)]
def RA.l2.X (Q : AE → St → Prop) (n : Nat) (x : (List (Option slot)) × Int × Int × Unit) : Prop := RA.l2 (fun t4 => Q .ret (RA.l2xr.mk' (t4, ()))) (Q (.exit 0) (RA.l2xe0.mk' ())) n x.1 x.2.1 x.2.2.1
def RA.ct : Cuts := { lp := [(2, fun st Q => RA.l2.k.as st fun x => ∃ n, RA.l2.X Q n x)], jn := [], ex := [], pl := [] }
def RA.cx : Cx := cxOf tyLH byL ptrL borL rowL false [] [] [] [] [] glL [] tyR [] []
def RA.us : List (Nat × ((AE → St → Prop) → AE → St → Prop)) := []
theorem RA.l2.eq (Q : AE → St → Prop) (n : Nat) (x : RA.l2.k.D) : RA.l2.X Q (n + 1) x = awp RA.cx RA.ct (lpAt 2 Tryd.f31) (lpQ RA.l2.k (RA.l2.X Q n) RA.l2.ex Q) (lpQ RA.l2.k (RA.l2.X Q n) RA.l2.ex Q) (RA.l2.k.mk' x) := by kernel_rfl
theorem RA.l2.lp : LpOk RA.cx RA.ct (usOf RA.ct.ex RA.us) (lpAt 2 Tryd.f31) := lp_gen 2 (by kernel_rfl) RA.l2.k RA.l2.ex RA.l2.X (by kernel_rfl) (by intro Q x; kernel_rfl) RA.l2.eq (fun _ _ => trivial)
def RA.ps : List PS := [.t (.sl 69 (.op tslot)), .nil]
def RA.G (x : (List (Option slot)) × Unit) (J : List AV0 → Prop) : Prop := RA x.1 (fun r0 => J [.tv (.int .i64) r0])
def RA.F : List AV0 → (List AV0 → Prop) → Prop := byPs RA.ps RA.G
theorem RA.eq (x : psD RA.ps) (J : List AV0 → Prop) : RA.G x J = fnA RA.cx RA.ct Tryd.f31 (psMk RA.ps x) J := by kernel_rfl
theorem RA.good : Go.Iv.Good Tryd.prog 31 RA.F := good_gen (us := RA.us) (cxOk baseH rows (l := []) (scL := []) trivial trivial glOk rtOk) Tryd.func31 (by kernel_rfl) (by kernel_rfl) RA.ps RA.G RA.eq (by kernel_rfl) (by kernel_rfl) (L := [lpAt 2 Tryd.f31]) (M := []) (by kernel_rfl) (by kernel_rfl) ⟨RA.l2.lp, trivial⟩ trivial
def OB.ct : Cuts := { lp := [], jn := [], ex := [], pl := [(10, [.any [] [(0, []), (1, []), (2, []), (3, []), (4, []), (5, []), (6, []), (7, []), (8, []), (9, []), (10, []), (11, []), (12, []), (13, []), (14, [])]]), (14, [.app [6, 11] [(0, [70, 0, 64, 69]), (1, [70, 0, 64, 69]), (2, [70, 0, 64, 69]), (3, [70, 0, 64, 69]), (4, [70, 64, 69]), (5, [70, 64, 69]), (6, [70, 64, 69]), (7, [70, 64, 69]), (8, [70, 64, 69]), (9, [70, 69]), (10, [70, 69]), (11, [70, 69])] 12, .one 13, .one 14]), (17, [.any [] [(0, []), (1, []), (2, []), (3, []), (4, []), (5, []), (6, []), (7, []), (8, [])]])] }
def OB.cx : Cx := cxOf tyL byL ptrL borL rowL false [] [] [] [] [] glL [] tyR [] []
def OB.us : List (Nat × ((AE → St → Prop) → AE → St → Prop)) := []
def OB.ps : List PS := [.nil, .t (.sl 5 (.int .u8))]
def OB.G (x : (List Int) × Unit) (J : List AV0 → Prop) : Prop := OB x.1 (fun r0 r1 => J [.tv (.arr 32 (.int .u8)) r0, .tv (.int .i64) r1])
def OB.F : List AV0 → (List AV0 → Prop) → Prop := byPs OB.ps OB.G
theorem OB.eq (x : psD OB.ps) (J : List AV0 → Prop) : OB.G x J = fnA OB.cx OB.ct Tryd.f12 (psMk OB.ps x) J := by kernel_rfl
theorem OB.good : Go.Iv.Good Tryd.prog 12 OB.F := good_gen (us := OB.us) (cxOk base rows (l := []) (scL := []) trivial trivial glOk rtOk) Tryd.func12 (by kernel_rfl) (by kernel_rfl) OB.ps OB.G OB.eq (by kernel_rfl) (by kernel_rfl) (L := []) (M := []) (by kernel_rfl) (by kernel_rfl) trivial trivial
def PB.ct : Cuts := { lp := [], jn := [], ex := [], pl := [] }
def PB.cx : Cx := cxOf tyL byL ptrL borL rowL false [] [] [] [] [] glL [] tyR [] []
def PB.us : List (Nat × ((AE → St → Prop) → AE → St → Prop)) := []
def PB.ps : List PS := [.rp tDisk]
def PB.G (x : Disk × Unit) (J : List AV0 → Prop) : Prop := PB x.1 (fun r0 => J [.tv (.int .i64) r0])
def PB.F : List AV0 → (List AV0 → Prop) → Prop := byPs PB.ps PB.G
theorem PB.eq (x : psD PB.ps) (J : List AV0 → Prop) : PB.G x J = fnA PB.cx PB.ct Tryd.f24 (psMk PB.ps x) J := by kernel_rfl
theorem PB.good : Go.Iv.Good Tryd.prog 24 PB.F := good_gen (us := PB.us) (cxOk base rows (l := []) (scL := []) trivial trivial glOk rtOk) Tryd.func24 (by kernel_rfl) (by kernel_rfl) PB.ps PB.G PB.eq (by kernel_rfl) (by kernel_rfl) (L := []) (M := []) (by kernel_rfl) (by kernel_rfl) trivial trivial
def VB.ct : Cuts := { lp := [], jn := [], ex := [], pl := [] }
def VB.cx : Cx := cxOf tyL byL ptrL borL rowL false [] [] [] [] [] glL [] tyR [] []
def VB.us : List (Nat × ((AE → St → Prop) → AE → St → Prop)) := []
def VB.ps : List PS := [.nil]
def VB.G (x : Unit) (J : List AV0 → Prop) : Prop := VB (fun r0 => J [.tv (.int .i64) r0])
def VB.F : List AV0 → (List AV0 → Prop) → Prop := byPs VB.ps VB.G
theorem VB.eq (x : psD VB.ps) (J : List AV0 → Prop) : VB.G x J = fnA VB.cx VB.ct Tryd.f24 (psMk VB.ps x) J := by kernel_rfl
theorem VB.good : Go.Iv.Good Tryd.prog 24 VB.F := good_gen (us := VB.us) (cxOk base rows (l := []) (scL := []) trivial trivial glOk rtOk) Tryd.func24 (by kernel_rfl) (by kernel_rfl) VB.ps VB.G VB.eq (by kernel_rfl) (by kernel_rfl) (L := []) (M := []) (by kernel_rfl) (by kernel_rfl) trivial trivial
def WB.ct : Cuts := { lp := [], jn := [], ex := [], pl := [(11, [.one 0, .one 1, .one 2, .one 3, .one 4, .one 5, .any [] [(6, []), (7, []), (8, []), (9, []), (10, []), (11, []), (12, []), (13, []), (14, []), (15, []), (16, []), (17, []), (18, []), (19, []), (20, []), (21, []), (22, []), (23, []), (24, []), (25, []), (26, []), (27, []), (28, []), (29, []), (30, []), (31, [])]])] }
def WB.cx : Cx := cxOf tyL byL ptrL borL rowL false [(47, TB.F)] [] [] [] [] glL [] tyR [] []
def WB.us : List (Nat × ((AE → St → Prop) → AE → St → Prop)) := []
def WB.ps : List PS := [.nil]
def WB.G (x : Unit) (J : List AV0 → Prop) : Prop := WB (fun r1 => J [.nilp, .tv (.int .i64) r1])
def WB.F : List AV0 → (List AV0 → Prop) → Prop := byPs WB.ps WB.G
theorem WB.eq (x : psD WB.ps) (J : List AV0 → Prop) : WB.G x J = fnA WB.cx WB.ct Tryd.f21 (psMk WB.ps x) J := by kernel_rfl
theorem WB.good : Go.Iv.Good Tryd.prog 21 WB.F := good_gen (us := WB.us) (cxOk base rows (l := [(47, TB.F)]) (scL := []) ⟨TB.good, trivial⟩ trivial glOk rtOk) Tryd.func21 (by kernel_rfl) (by kernel_rfl) WB.ps WB.G WB.eq (by kernel_rfl) (by kernel_rfl) (L := []) (M := []) (by kernel_rfl) (by kernel_rfl) trivial trivial
def OA.l5xr : Sk := ⟨[], 77, [(2, .nilp), (3, .var (.int .i64))], [(10, .row 88 (.arr 64 (.int .u8))), (12, .row 90 twrite), (1000, .box 99 tJournalH), (1001, .box 87 tDiskH)], [((1000, 0), 2004), ((1001, 0), 21), ((1001, 1), 25)]⟩
def OA.l5xe0 : Sk := ⟨[], 77, [(4, .ptr 19 0)], [(17, .box 117 tMapH), (13, .row 4 .bool), (19, .box 73 tShelfH), (1000, .box 99 tJournalH), (1001, .box 87 tDiskH), (10, .row 88 (.arr 64 (.int .u8))), (12, .row 90 twrite)], [((19, 49), 36), ((19, 0), 2002), ((17, 0), 27), ((1000, 0), 2004), ((1001, 0), 21), ((1001, 1), 25)]⟩
def OA.l5.k : Sk := ⟨[], 77, [(0, .ptr 1000 0), (4, .ptr 19 0), (20, .var (.int .i64))], [(17, .box 117 tMapH), (13, .row 4 .bool), (19, .box 73 tShelfH), (1000, .box 99 tJournalH), (1001, .box 87 tDiskH), (10, .row 88 (.arr 64 (.int .u8))), (12, .row 90 twrite)], [((19, 49), 36), ((19, 0), 2002), ((17, 0), 27), ((1000, 0), 2004), ((1001, 0), 21), ((1001, 1), 25)]⟩
def OA.l5.ex : List (AE × Sk) := [(.ret, OA.l5xr), ((.exit 0), OA.l5xe0)]
def OA.l5.X (Q : AE → St → Prop) (n : Nat) (x : Int × MapH × (List Bool) × ShelfH × JournalH × DiskH × (List (List Int)) × (List write) × Unit) : Prop := OA.l5 (fun t3 ot10 ot12 ot1000 ot1001 => Q .ret (OA.l5xr.mk' (t3, ot10, ot12, ot1000, ot1001, ()))) (fun ot17 ot13 ot19 ot1000 ot1001 ot10 ot12 => Q (.exit 0) (OA.l5xe0.mk' (ot17, ot13, ot19, ot1000, ot1001, ot10, ot12, ()))) n x.1 x.2.1 x.2.2.1 x.2.2.2.1 x.2.2.2.2.1 x.2.2.2.2.2.1 x.2.2.2.2.2.2.1 x.2.2.2.2.2.2.2.1
def OA.ct : Cuts := { lp := [(5, fun st Q => OA.l5.k.as st fun x => ∃ n, OA.l5.X Q n x)], jn := [], ex := [], pl := [(11, [.one 0, .one 1, .one 2, .one 3, .one 4, .one 5, .any [] [(6, []), (7, []), (8, []), (9, []), (10, []), (11, []), (12, []), (13, []), (14, []), (15, []), (16, []), (17, []), (18, [])], .one 19, .one 20, .one 21, .any [] [(22, []), (23, []), (24, []), (25, []), (26, []), (27, []), (28, []), (29, []), (30, []), (31, [])]])] }
def OA.cx : Cx := cxOf tyLH byL ptrL borL rowL false [(30, HB.F), (33, DB.F), (47, WA.F)] [] [] [(37, CB.S), (48, GB.S), (50, EB.S), (49, PA.S)] [(17, [(1000, 17), (1001, 13)])] glL [] tyR [(1001, [(0, 10), (1, 12)])] []
def OA.us : List (Nat × ((AE → St → Prop) → AE → St → Prop)) := []
theorem OA.l5.eq (Q : AE → St → Prop) (n : Nat) (x : OA.l5.k.D) : OA.l5.X Q (n + 1) x = awp OA.cx OA.ct (lpAt 5 Tryd.f21) (lpQ OA.l5.k (OA.l5.X Q n) OA.l5.ex Q) (lpQ OA.l5.k (OA.l5.X Q n) OA.l5.ex Q) (OA.l5.k.mk' x) := by kernel_rfl
theorem OA.l5.lp : LpOk OA.cx OA.ct (usOf OA.ct.ex OA.us) (lpAt 5 Tryd.f21) := lp_gen 5 (by kernel_rfl) OA.l5.k OA.l5.ex OA.l5.X (by kernel_rfl) (by intro Q x; kernel_rfl) OA.l5.eq (fun _ _ => trivial)
def OA.inn : Sk := ⟨[], 1, [(0, .ptr 1000 0)], [(1000, .box 99 tJournalH), (1001, .box 87 tDiskH), (10, .row 88 (.arr 64 (.int .u8))), (12, .row 90 twrite)], [((1000, 0), 2004), ((1001, 0), 21), ((1001, 1), 25)]⟩
def OA.out0 : Sk := ⟨[], 2, [(0, .ptr 1002 0), (1, .var (.int .i64))], [(10, .row 88 (.arr 64 (.int .u8))), (12, .row 90 twrite), (1000, .box 99 tJournalH), (1001, .box 87 tDiskH), (1002, .box 73 tShelfH), (1003, .box 117 tMapH), (1004, .row 4 .bool)], [((1000, 0), 2004), ((1001, 0), 21), ((1001, 1), 25), ((1002, 49), 2008), ((1002, 0), 2002), ((1003, 0), 2009)]⟩
def OA.out1 : Sk := ⟨[], 2, [(0, .nilp), (1, .var (.int .i64))], [(10, .row 88 (.arr 64 (.int .u8))), (12, .row 90 twrite), (1000, .box 99 tJournalH), (1001, .box 87 tDiskH)], [((1000, 0), 2004), ((1001, 0), 21), ((1001, 1), 25)]⟩
def OA.outs : Nat → Sk := fun i => lkSk i [(0, OA.out0), (1, OA.out1)]
def OA.S : SFn := ⟨OA.inn, OA.outs, fun (x : JournalH × DiskH × (List (List Int)) × (List write) × Unit) (J : (i : Nat) → (OA.outs i).D → Prop) => OA x.1 x.2.1 x.2.2.1 x.2.2.2.1 (fun r1 ot10 ot12 ot1000 ot1001 ot1002 ot1003 ot1004 => J 0 ((r1, ot10, ot12, ot1000, ot1001, ot1002, ot1003, ot1004, ()) : Int × (List (List Int)) × (List write) × JournalH × DiskH × ShelfH × MapH × (List Bool) × Unit)) (fun r1 ot10 ot12 ot1000 ot1001 => J 1 ((r1, ot10, ot12, ot1000, ot1001, ()) : Int × (List (List Int)) × (List write) × JournalH × DiskH × Unit))⟩
theorem OA.eq (x : OA.inn.D) (J : (i : Nat) → (OA.outs i).D → Prop) : OA.S.F x J = fnAS OA.cx OA.ct Tryd.f21 OA.inn OA.outs x J := by kernel_rfl
theorem OA.good : Go.Iv.SOK Tryd.prog 21 OA.S := goodS_gen (us := OA.us) (cxOk baseH rows (l := [(30, HB.F), (33, DB.F), (47, WA.F)]) (scL := [(37, CB.S), (48, GB.S), (50, EB.S), (49, PA.S)]) ⟨HB.good, DB.good, WA.good, trivial⟩ ⟨CB.good, GB.good, EB.good, PA.good, trivial⟩ glOk rtOk) Tryd.func21 (by kernel_rfl) (by kernel_rfl) (S := OA.S) OA.eq (by kernel_rfl) (by kernel_rfl) (by kernel_rfl) (L := [lpAt 5 Tryd.f21]) (M := []) (by kernel_rfl) (by kernel_rfl) ⟨OA.l5.lp, trivial⟩ trivial
end Go.Iw
