/- The program's functions do what the plain ones do. -/
import Derived.Test.YtcpeakceigidpaaDoorVSo4
set_option linter.all false
namespace Go.Iw
open Go.Iv Go.Proofs
attribute [local irreducible] fnA fnAS awp
set_option maxHeartbeats 4000000
set_option maxRecDepth 100000
def KA.l4xr : Sk := ⟨[], 49, [(8, .var .bool)], [(1000, .box 117 tMapH), (12, .row 4 .bool)], [((1000, 0), 25)]⟩
def KA.l4xe0 : Sk := ⟨[], 49, [(0, .ptr 1000 0), (1, .var (.int .i64)), (2, .var (.int .i64)), (3, .var .bool)], [(1000, .box 117 tMapH), (12, .row 4 .bool)], [((1000, 0), 25)]⟩
def KA.l10xe2 : Sk := ⟨[], 49, [], [(1000, .box 117 tMapH), (12, .row 4 .bool)], [((1000, 0), 25)]⟩
def KA.l4.k : Sk := ⟨[], 49, [(0, .ptr 1000 0), (1, .var (.int .i64)), (2, .var (.int .i64)), (3, .var .bool), (25, .sub 12), (26, .var (.int .i64)), (27, .var (.int .i64))], [(1000, .box 117 tMapH), (12, .row 4 .bool)], [((1000, 0), 25)]⟩
def KA.l10.k : Sk := ⟨[], 49, [(0, .ptr 1000 0), (1, .var (.int .i64)), (3, .var .bool), (35, .var (.int .i64)), (36, .var (.int .i64))], [(1000, .box 117 tMapH), (12, .row 4 .bool)], [((1000, 0), 25)]⟩
def KA.l4.ex : List (AE × Sk) := [(.ret, KA.l4xr), ((.exit 0), KA.l4xe0)]
def KA.l4.X (Q : AE → St → Prop) (n : Nat) (x : Int × Int × Bool × (Nat × Nat) × Int × Int × MapH × (List Bool) × Unit) : Prop := KA.l4 (fun t8 ot1000 ot12 => Q .ret (KA.l4xr.mk' (t8, ot1000, ot12, ()))) (fun at1 n2 taken3 ot1000 ot12 => Q (.exit 0) (KA.l4xe0.mk' (at1, n2, taken3, ot1000, ot12, ()))) n x.1 x.2.1 x.2.2.1 x.2.2.2.1 x.2.2.2.2.1 x.2.2.2.2.2.1 x.2.2.2.2.2.2.1 x.2.2.2.2.2.2.2.1
def KA.l10.ex : List (AE × Sk) := [((.exit 2), KA.l10xe2)]
def KA.l10.X (Q : AE → St → Prop) (n : Nat) (x : Int × Bool × Int × Int × MapH × (List Bool) × Unit) : Prop := KA.l10 (fun ot1000 ot12 => Q (.exit 2) (KA.l10xe2.mk' (ot1000, ot12, ()))) n x.1 x.2.1 x.2.2.1 x.2.2.2.1 x.2.2.2.2.1 x.2.2.2.2.2.1
def KA.ct : Cuts := { lp := [(4, fun st Q => KA.l4.k.as st fun x => ∃ n, KA.l4.X Q n x), (10, fun st Q => KA.l10.k.as st fun x => ∃ n, KA.l10.X Q n x)], jn := [], ex := [], pl := [] }
def KA.cx : Cx := cxOf tyLH byL ptrL borL rowL false [(75, NB.F)] [] [25] [] [] glL [] tyR [(1000, [(0, 12)])] []
def KA.us : List (Nat × ((AE → St → Prop) → AE → St → Prop)) := []
theorem KA.l4.eq (Q : AE → St → Prop) (n : Nat) (x : KA.l4.k.D) : KA.l4.X Q (n + 1) x = awp KA.cx KA.ct (lpAt 4 Tryd.f63) (lpQ KA.l4.k (KA.l4.X Q n) KA.l4.ex Q) (lpQ KA.l4.k (KA.l4.X Q n) KA.l4.ex Q) (KA.l4.k.mk' x) := by kernel_rfl
theorem KA.l4.lp : LpOk KA.cx KA.ct (usOf KA.ct.ex KA.us) (lpAt 4 Tryd.f63) := lp_gen 4 (by kernel_rfl) KA.l4.k KA.l4.ex KA.l4.X (by kernel_rfl) (by intro Q x; kernel_rfl) KA.l4.eq (fun _ _ => trivial)
theorem KA.l10.eq (Q : AE → St → Prop) (n : Nat) (x : KA.l10.k.D) : KA.l10.X Q (n + 1) x = awp KA.cx KA.ct (lpAt 10 Tryd.f63) (lpQ KA.l10.k (KA.l10.X Q n) KA.l10.ex Q) (lpQ KA.l10.k (KA.l10.X Q n) KA.l10.ex Q) (KA.l10.k.mk' x) := by kernel_rfl
theorem KA.l10.lp : LpOk KA.cx KA.ct (usOf KA.ct.ex KA.us) (lpAt 10 Tryd.f63) := lp_gen 10 (by kernel_rfl) KA.l10.k KA.l10.ex KA.l10.X (by kernel_rfl) (by intro Q x; kernel_rfl) KA.l10.eq (fun _ _ => trivial)
def KA.inn : Sk := ⟨[], 4, [(0, .ptr 1000 0), (1, .var (.int .i64)), (2, .var (.int .i64)), (3, .var .bool)], [(1000, .box 117 tMapH), (12, .row 4 .bool)], [((1000, 0), 25)]⟩
def KA.out0 : Sk := ⟨[], 1, [(0, .var .bool)], [(12, .row 4 .bool), (1000, .box 117 tMapH)], [((1000, 0), 25)]⟩
def KA.outs : Nat → Sk := fun i => lkSk i [(0, KA.out0)]
def KA.S : SFn := ⟨KA.inn, KA.outs, fun (x : Int × Int × Bool × MapH × (List Bool) × Unit) (J : (i : Nat) → (KA.outs i).D → Prop) => KA x.1 x.2.1 x.2.2.1 x.2.2.2.1 x.2.2.2.2.1 (fun r0 ot12 ot1000 => J 0 ((r0, ot12, ot1000, ()) : Bool × (List Bool) × MapH × Unit))⟩
theorem KA.eq (x : KA.inn.D) (J : (i : Nat) → (KA.outs i).D → Prop) : KA.S.F x J = fnAS KA.cx KA.ct Tryd.f63 KA.inn KA.outs x J := by kernel_rfl
theorem KA.good : Go.Iv.SOK Tryd.prog 63 KA.S := goodS_gen (us := KA.us) (cxOk baseH rows (l := [(75, NB.F)]) (scL := []) ⟨NB.good, trivial⟩ trivial glOk rtOk) Tryd.func63 (by kernel_rfl) (by kernel_rfl) (S := KA.S) KA.eq (by kernel_rfl) (by kernel_rfl) (by kernel_rfl) (L := [lpAt 4 Tryd.f63, lpAt 10 Tryd.f63]) (M := []) (by kernel_rfl) (by kernel_rfl) ⟨KA.l4.lp, KA.l10.lp, trivial⟩ trivial
def DB.ct : Cuts := { lp := [], jn := [], ex := [], pl := [] }
def DB.cx : Cx := cxOf tyLH byL ptrL borL rowL false [] [] [] [(63, KA.S)] [] glL [] tyR [(1000, [(0, 7)])] []
def DB.us : List (Nat × ((AE → St → Prop) → AE → St → Prop)) := []
def DB.inn : Sk := ⟨[], 3, [(0, .ptr 1000 0), (1, .var (.int .i64)), (2, .var (.int .i64))], [(1000, .box 117 tMapH), (7, .row 4 .bool)], [((1000, 0), 15)]⟩
def DB.out0 : Sk := ⟨[], 1, [(0, .var .bool)], [(7, .row 4 .bool), (1000, .box 117 tMapH)], [((1000, 0), 15)]⟩
def DB.outs : Nat → Sk := fun i => lkSk i [(0, DB.out0)]
def DB.S : SFn := ⟨DB.inn, DB.outs, fun (x : Int × Int × MapH × (List Bool) × Unit) (J : (i : Nat) → (DB.outs i).D → Prop) => DB x.1 x.2.1 x.2.2.1 x.2.2.2.1 (fun r0 ot7 ot1000 => J 0 ((r0, ot7, ot1000, ()) : Bool × (List Bool) × MapH × Unit))⟩
theorem DB.eq (x : DB.inn.D) (J : (i : Nat) → (DB.outs i).D → Prop) : DB.S.F x J = fnAS DB.cx DB.ct Tryd.f37 DB.inn DB.outs x J := by kernel_rfl
theorem DB.good : Go.Iv.SOK Tryd.prog 37 DB.S := goodS_gen (us := DB.us) (cxOk baseH rows (l := []) (scL := [(63, KA.S)]) trivial ⟨KA.good, trivial⟩ glOk rtOk) Tryd.func37 (by kernel_rfl) (by kernel_rfl) (S := DB.S) DB.eq (by kernel_rfl) (by kernel_rfl) (by kernel_rfl) (L := []) (M := []) (by kernel_rfl) (by kernel_rfl) trivial trivial
def SB.ct : Cuts := { lp := [], jn := [], ex := [], pl := [(1, [.one 0, .one 1, .one 2, .any [] [(3, []), (4, []), (5, []), (6, []), (7, []), (8, []), (9, []), (10, [])]])] }
def SB.cx : Cx := cxOf tyL byL ptrL borL rowL false [] [] [] [] [] glL [] tyR [] []
def SB.us : List (Nat × ((AE → St → Prop) → AE → St → Prop)) := []
def SB.ps : List PS := [.rp tslot, .rp (.arr 32 (.int .u8))]
def SB.G (x : slot × (List Int) × Unit) (J : List AV0 → Prop) : Prop := SB x.1 x.2.1 (fun r0 => J [.tv .bool r0])
def SB.F : List AV0 → (List AV0 → Prop) → Prop := byPs SB.ps SB.G
theorem SB.eq (x : psD SB.ps) (J : List AV0 → Prop) : SB.G x J = fnA SB.cx SB.ct Tryd.f58 (psMk SB.ps x) J := by kernel_rfl
theorem SB.good : Go.Iv.Good Tryd.prog 58 SB.F := good_gen (us := SB.us) (cxOk base rows (l := []) (scL := []) trivial trivial glOk rtOk) Tryd.func58 (by kernel_rfl) (by kernel_rfl) SB.ps SB.G SB.eq (by kernel_rfl) (by kernel_rfl) (L := []) (M := []) (by kernel_rfl) (by kernel_rfl) trivial trivial
def VB.ct : Cuts := { lp := [], jn := [], ex := [], pl := [(1, [.one 0, .one 1, .one 2, .any [] [(3, []), (4, []), (5, []), (6, []), (7, []), (8, []), (9, []), (10, [])]])] }
def VB.cx : Cx := cxOf tyL byL ptrL borL rowL false [] [] [] [] [] glL [] tyR [] []
def VB.us : List (Nat × ((AE → St → Prop) → AE → St → Prop)) := []
def VB.ps : List PS := [.nil, .rp (.arr 32 (.int .u8))]
def VB.G (x : (List Int) × Unit) (J : List AV0 → Prop) : Prop := VB x.1 (fun r0 => J [.tv .bool r0])
def VB.F : List AV0 → (List AV0 → Prop) → Prop := byPs VB.ps VB.G
theorem VB.eq (x : psD VB.ps) (J : List AV0 → Prop) : VB.G x J = fnA VB.cx VB.ct Tryd.f58 (psMk VB.ps x) J := by kernel_rfl
theorem VB.good : Go.Iv.Good Tryd.prog 58 VB.F := good_gen (us := VB.us) (cxOk base rows (l := []) (scL := []) trivial trivial glOk rtOk) Tryd.func58 (by kernel_rfl) (by kernel_rfl) VB.ps VB.G VB.eq (by kernel_rfl) (by kernel_rfl) (L := []) (M := []) (by kernel_rfl) (by kernel_rfl) trivial trivial
def PA.l2xr : Sk := ⟨[], 19, [(4, .var (.int .i64))], [], []⟩
def PA.l2xe0 : Sk := ⟨[], 19, [], [], []⟩
def PA.l2.k : Sk := ⟨[], 19, [(0, .var (.sl 69 (.op tslot))), (1, .clo 58 (.arr 32 (.int .u8))), (7, .var (.int .i64)), (8, .var (.int .i64))], [], []⟩
def PA.l2.ex : List (AE × Sk) := [(.ret, PA.l2xr), ((.exit 0), PA.l2xe0)]
def PA.l2.X (Q : AE → St → Prop) (n : Nat) (x : (List (Option slot)) × (List Int) × Int × Int × Unit) : Prop := PA.l2 (fun t4 => Q .ret (PA.l2xr.mk' (t4, ()))) (Q (.exit 0) (PA.l2xe0.mk' ())) n x.1 x.2.1 x.2.2.1 x.2.2.2.1
def PA.ct : Cuts := { lp := [(2, fun st Q => PA.l2.k.as st fun x => ∃ n, PA.l2.X Q n x)], jn := [], ex := [], pl := [] }
def PA.cx : Cx := cxOf tyLH byL ptrL borL rowL false [(58, orP VB.F SB.F)] [] [] [] [] glL [] tyR [] []
def PA.us : List (Nat × ((AE → St → Prop) → AE → St → Prop)) := []
theorem PA.l2.eq (Q : AE → St → Prop) (n : Nat) (x : PA.l2.k.D) : PA.l2.X Q (n + 1) x = awp PA.cx PA.ct (lpAt 2 Tryd.f57) (lpQ PA.l2.k (PA.l2.X Q n) PA.l2.ex Q) (lpQ PA.l2.k (PA.l2.X Q n) PA.l2.ex Q) (PA.l2.k.mk' x) := by kernel_rfl
theorem PA.l2.lp : LpOk PA.cx PA.ct (usOf PA.ct.ex PA.us) (lpAt 2 Tryd.f57) := lp_gen 2 (by kernel_rfl) PA.l2.k PA.l2.ex PA.l2.X (by kernel_rfl) (by intro Q x; kernel_rfl) PA.l2.eq (fun _ _ => trivial)
def PA.ps : List PS := [.t (.sl 69 (.op tslot)), .clo 58 (.arr 32 (.int .u8))]
def PA.G (x : (List (Option slot)) × (List Int) × Unit) (J : List AV0 → Prop) : Prop := PA x.1 x.2.1 (fun r0 => J [.tv (.int .i64) r0])
def PA.F : List AV0 → (List AV0 → Prop) → Prop := byPs PA.ps PA.G
theorem PA.eq (x : psD PA.ps) (J : List AV0 → Prop) : PA.G x J = fnA PA.cx PA.ct Tryd.f57 (psMk PA.ps x) J := by kernel_rfl
theorem PA.good : Go.Iv.Good Tryd.prog 57 PA.F := good_gen (us := PA.us) (cxOk baseH rows (l := [(58, orP VB.F SB.F)]) (scL := []) ⟨(VB.good.orP SB.good), trivial⟩ trivial glOk rtOk) Tryd.func57 (by kernel_rfl) (by kernel_rfl) PA.ps PA.G PA.eq (by kernel_rfl) (by kernel_rfl) (L := [lpAt 2 Tryd.f57]) (M := []) (by kernel_rfl) (by kernel_rfl) ⟨PA.l2.lp, trivial⟩ trivial
def IB.ct : Cuts := { lp := [], jn := [], ex := [], pl := [] }
def IB.cx : Cx := cxOf tyLH byL ptrL borL rowL false [(57, PA.F)] [] [] [] [] glL [] tyR [] []
def IB.us : List (Nat × ((AE → St → Prop) → AE → St → Prop)) := []
def IB.ps : List PS := [.rp tShelf, .t (.arr 32 (.int .u8))]
def IB.G (x : Shelf × (List Int) × Unit) (J : List AV0 → Prop) : Prop := IB x.1 x.2.1 (fun r0 => J [.tv (.int .i64) r0])
def IB.F : List AV0 → (List AV0 → Prop) → Prop := byPs IB.ps IB.G
theorem IB.eq (x : psD IB.ps) (J : List AV0 → Prop) : IB.G x J = fnA IB.cx IB.ct Tryd.f30 (psMk IB.ps x) J := by kernel_rfl
theorem IB.good : Go.Iv.Good Tryd.prog 30 IB.F := good_gen (us := IB.us) (cxOk baseH rows (l := [(57, PA.F)]) (scL := []) ⟨PA.good, trivial⟩ trivial glOk rtOk) Tryd.func30 (by kernel_rfl) (by kernel_rfl) IB.ps IB.G IB.eq (by kernel_rfl) (by kernel_rfl) (L := []) (M := []) (by kernel_rfl) (by kernel_rfl) trivial trivial
def QA.l2xr : Sk := ⟨[], 19, [(4, .var (.int .i64))], [], []⟩
def QA.l2xe0 : Sk := ⟨[], 19, [], [], []⟩
def QA.l2.k : Sk := ⟨[], 19, [(0, .var (.sl 69 (.op tslot))), (1, .nilp), (7, .var (.int .i64)), (8, .var (.int .i64))], [], []⟩
def QA.l2.ex : List (AE × Sk) := [(.ret, QA.l2xr), ((.exit 0), QA.l2xe0)]
def QA.l2.X (Q : AE → St → Prop) (n : Nat) (x : (List (Option slot)) × Int × Int × Unit) : Prop := QA.l2 (fun t4 => Q .ret (QA.l2xr.mk' (t4, ()))) (Q (.exit 0) (QA.l2xe0.mk' ())) n x.1 x.2.1 x.2.2.1
def QA.ct : Cuts := { lp := [(2, fun st Q => QA.l2.k.as st fun x => ∃ n, QA.l2.X Q n x)], jn := [], ex := [], pl := [] }
def QA.cx : Cx := cxOf tyLH byL ptrL borL rowL false [] [] [] [] [] glL [] tyR [] []
def QA.us : List (Nat × ((AE → St → Prop) → AE → St → Prop)) := []
theorem QA.l2.eq (Q : AE → St → Prop) (n : Nat) (x : QA.l2.k.D) : QA.l2.X Q (n + 1) x = awp QA.cx QA.ct (lpAt 2 Tryd.f31) (lpQ QA.l2.k (QA.l2.X Q n) QA.l2.ex Q) (lpQ QA.l2.k (QA.l2.X Q n) QA.l2.ex Q) (QA.l2.k.mk' x) := by kernel_rfl
theorem QA.l2.lp : LpOk QA.cx QA.ct (usOf QA.ct.ex QA.us) (lpAt 2 Tryd.f31) := lp_gen 2 (by kernel_rfl) QA.l2.k QA.l2.ex QA.l2.X (by kernel_rfl) (by intro Q x; kernel_rfl) QA.l2.eq (fun _ _ => trivial)
def QA.ps : List PS := [.t (.sl 69 (.op tslot)), .nil]
def QA.G (x : (List (Option slot)) × Unit) (J : List AV0 → Prop) : Prop := QA x.1 (fun r0 => J [.tv (.int .i64) r0])
def QA.F : List AV0 → (List AV0 → Prop) → Prop := byPs QA.ps QA.G
theorem QA.eq (x : psD QA.ps) (J : List AV0 → Prop) : QA.G x J = fnA QA.cx QA.ct Tryd.f31 (psMk QA.ps x) J := by kernel_rfl
theorem QA.good : Go.Iv.Good Tryd.prog 31 QA.F := good_gen (us := QA.us) (cxOk baseH rows (l := []) (scL := []) trivial trivial glOk rtOk) Tryd.func31 (by kernel_rfl) (by kernel_rfl) QA.ps QA.G QA.eq (by kernel_rfl) (by kernel_rfl) (L := [lpAt 2 Tryd.f31]) (M := []) (by kernel_rfl) (by kernel_rfl) ⟨QA.l2.lp, trivial⟩ trivial
def WB.ct : Cuts := { lp := [], jn := [], ex := [], pl := [] }
def WB.cx : Cx := cxOf tyL byL ptrL borL rowL false [] [] [] [] [] glL [] tyR [] []
def WB.us : List (Nat × ((AE → St → Prop) → AE → St → Prop)) := []
def WB.ps : List PS := [.nil, .t (.arr 32 (.int .u8))]
def WB.G (x : (List Int) × Unit) (J : List AV0 → Prop) : Prop := WB x.1 (fun r0 => J [.tv .bool r0])
def WB.F : List AV0 → (List AV0 → Prop) → Prop := byPs WB.ps WB.G
theorem WB.eq (x : psD WB.ps) (J : List AV0 → Prop) : WB.G x J = fnA WB.cx WB.ct Tryd.f25 (psMk WB.ps x) J := by kernel_rfl
theorem WB.good : Go.Iv.Good Tryd.prog 25 WB.F := good_gen (us := WB.us) (cxOk base rows (l := []) (scL := []) trivial trivial glOk rtOk) Tryd.func25 (by kernel_rfl) (by kernel_rfl) WB.ps WB.G WB.eq (by kernel_rfl) (by kernel_rfl) (L := []) (M := []) (by kernel_rfl) (by kernel_rfl) trivial trivial
def TB.ct : Cuts := { lp := [], jn := [], ex := [], pl := [(3, [.any [] [(0, []), (1, []), (2, []), (3, []), (4, []), (5, []), (6, []), (7, []), (8, [])]]), (14, [.any [] [(0, []), (1, []), (2, []), (3, [])]])] }
def TB.cx : Cx := cxOf tyL byL ptrL borL rowL true [] [7, 4] [] [] [] glL [] tyR [] []
def TB.us : List (Nat × ((AE → St → Prop) → AE → St → Prop)) := []
def TB.ps : List PS := [.nil, .t (.arr 32 (.int .u8))]
def TB.G (x : (List Int) × Unit) (J : List AV0 → Prop) : Prop := TB x.1 (fun r0 r1 => J [.own 5 (.int .u8) r0, .tv (.int .i64) r1])
def TB.F : List AV0 → (List AV0 → Prop) → Prop := byPs TB.ps TB.G
theorem TB.eq (x : psD TB.ps) (J : List AV0 → Prop) : TB.G x J = fnA TB.cx TB.ct Tryd.f26 (psMk TB.ps x) J := by kernel_rfl
theorem TB.good : Go.Iv.Good Tryd.prog 26 TB.F := good_gen (us := TB.us) (cxOk base rows (l := []) (scL := []) trivial trivial glOk rtOk) Tryd.func26 (by kernel_rfl) (by kernel_rfl) TB.ps TB.G TB.eq (by kernel_rfl) (by kernel_rfl) (L := []) (M := []) (by kernel_rfl) (by kernel_rfl) trivial trivial
def OB.ct : Cuts := { lp := [], jn := [], ex := [], pl := [(10, [.any [] [(0, []), (1, []), (2, []), (3, []), (4, []), (5, []), (6, []), (7, []), (8, []), (9, []), (10, []), (11, []), (12, []), (13, []), (14, [])]]), (14, [.app [6, 11] [(0, [70, 0, 64, 69]), (1, [70, 0, 64, 69]), (2, [70, 0, 64, 69]), (3, [70, 0, 64, 69]), (4, [70, 64, 69]), (5, [70, 64, 69]), (6, [70, 64, 69]), (7, [70, 64, 69]), (8, [70, 64, 69]), (9, [70, 69]), (10, [70, 69]), (11, [70, 69])] 12, .one 13, .one 14]), (17, [.any [] [(0, []), (1, []), (2, []), (3, []), (4, []), (5, []), (6, []), (7, []), (8, [])]])] }
def OB.cx : Cx := cxOf tyL byL ptrL borL rowL false [] [] [] [] [] glL [] tyR [] []
def OB.us : List (Nat × ((AE → St → Prop) → AE → St → Prop)) := []
def OB.ps : List PS := [.nil, .t (.sl 5 (.int .u8))]
def OB.G (x : (List Int) × Unit) (J : List AV0 → Prop) : Prop := OB x.1 (fun r0 r1 => J [.tv (.arr 32 (.int .u8)) r0, .tv (.int .i64) r1])
def OB.F : List AV0 → (List AV0 → Prop) → Prop := byPs OB.ps OB.G
theorem OB.eq (x : psD OB.ps) (J : List AV0 → Prop) : OB.G x J = fnA OB.cx OB.ct Tryd.f12 (psMk OB.ps x) J := by kernel_rfl
theorem OB.good : Go.Iv.Good Tryd.prog 12 OB.F := good_gen (us := OB.us) (cxOk base rows (l := []) (scL := []) trivial trivial glOk rtOk) Tryd.func12 (by kernel_rfl) (by kernel_rfl) OB.ps OB.G OB.eq (by kernel_rfl) (by kernel_rfl) (L := []) (M := []) (by kernel_rfl) (by kernel_rfl) trivial trivial
def XB.ct : Cuts := { lp := [], jn := [], ex := [], pl := [(7, [.any [] [(0, []), (1, []), (2, []), (3, []), (4, []), (5, []), (6, []), (7, []), (8, []), (9, []), (10, []), (11, []), (12, []), (13, []), (14, []), (15, []), (16, []), (17, []), (18, []), (19, []), (20, []), (21, []), (22, []), (23, [])]])] }
def XB.cx : Cx := cxOf tyL byL ptrL borL rowL false [] [] [] [] [] glL [] tyR [] []
def XB.us : List (Nat × ((AE → St → Prop) → AE → St → Prop)) := []
def XB.ps : List PS := [.nil, .t (.arr 32 (.int .u8))]
def XB.G (x : (List Int) × Unit) (J : List AV0 → Prop) : Prop := XB x.1 (fun r0 => J [.tv (.int .i64) r0])
def XB.F : List AV0 → (List AV0 → Prop) → Prop := byPs XB.ps XB.G
theorem XB.eq (x : psD XB.ps) (J : List AV0 → Prop) : XB.G x J = fnA XB.cx XB.ct Tryd.f17 (psMk XB.ps x) J := by kernel_rfl
theorem XB.good : Go.Iv.Good Tryd.prog 17 XB.F := good_gen (us := XB.us) (cxOk base rows (l := []) (scL := []) trivial trivial glOk rtOk) Tryd.func17 (by kernel_rfl) (by kernel_rfl) XB.ps XB.G XB.eq (by kernel_rfl) (by kernel_rfl) (L := []) (M := []) (by kernel_rfl) (by kernel_rfl) trivial trivial
def PB.ct : Cuts := { lp := [], jn := [], ex := [], pl := [(11, [.one 0, .one 1, .one 2, .one 3, .one 4, .one 5, .any [] [(6, []), (7, []), (8, []), (9, []), (10, []), (11, []), (12, []), (13, []), (14, []), (15, []), (16, []), (17, []), (18, []), (19, []), (20, []), (21, []), (22, []), (23, []), (24, []), (25, []), (26, []), (27, []), (28, []), (29, []), (30, []), (31, [])]])] }
def PB.cx : Cx := cxOf tyL byL ptrL borL rowL false [(47, UB.F)] [] [] [] [] glL [] tyR [] []
def PB.us : List (Nat × ((AE → St → Prop) → AE → St → Prop)) := []
def PB.ps : List PS := [.nil]
def PB.G (x : Unit) (J : List AV0 → Prop) : Prop := PB (fun r1 => J [.nilp, .tv (.int .i64) r1])
def PB.F : List AV0 → (List AV0 → Prop) → Prop := byPs PB.ps PB.G
theorem PB.eq (x : psD PB.ps) (J : List AV0 → Prop) : PB.G x J = fnA PB.cx PB.ct Tryd.f21 (psMk PB.ps x) J := by kernel_rfl
theorem PB.good : Go.Iv.Good Tryd.prog 21 PB.F := good_gen (us := PB.us) (cxOk base rows (l := [(47, UB.F)]) (scL := []) ⟨UB.good, trivial⟩ trivial glOk rtOk) Tryd.func21 (by kernel_rfl) (by kernel_rfl) PB.ps PB.G PB.eq (by kernel_rfl) (by kernel_rfl) (L := []) (M := []) (by kernel_rfl) (by kernel_rfl) trivial trivial
def LA.l5xr : Sk := ⟨[], 77, [(2, .nilp), (3, .var (.int .i64))], [(10, .row 88 (.arr 64 (.int .u8))), (12, .row 90 twrite), (1000, .box 99 tJournalH), (1001, .box 87 tDiskH)], [((1000, 0), 2004), ((1001, 0), 21), ((1001, 1), 25)]⟩
def LA.l5xe0 : Sk := ⟨[], 77, [(4, .ptr 19 0)], [(17, .box 117 tMapH), (13, .row 4 .bool), (19, .box 73 tShelfH), (1000, .box 99 tJournalH), (1001, .box 87 tDiskH), (10, .row 88 (.arr 64 (.int .u8))), (12, .row 90 twrite)], [((19, 49), 36), ((19, 0), 2002), ((17, 0), 27), ((1000, 0), 2004), ((1001, 0), 21), ((1001, 1), 25)]⟩
def LA.l5.k : Sk := ⟨[], 77, [(0, .ptr 1000 0), (4, .ptr 19 0), (20, .var (.int .i64))], [(17, .box 117 tMapH), (13, .row 4 .bool), (19, .box 73 tShelfH), (1000, .box 99 tJournalH), (1001, .box 87 tDiskH), (10, .row 88 (.arr 64 (.int .u8))), (12, .row 90 twrite)], [((19, 49), 36), ((19, 0), 2002), ((17, 0), 27), ((1000, 0), 2004), ((1001, 0), 21), ((1001, 1), 25)]⟩
def LA.l5.ex : List (AE × Sk) := [(.ret, LA.l5xr), ((.exit 0), LA.l5xe0)]
def LA.l5.X (Q : AE → St → Prop) (n : Nat) (x : Int × MapH × (List Bool) × ShelfH × JournalH × DiskH × (List (List Int)) × (List write) × Unit) : Prop := LA.l5 (fun t3 ot10 ot12 ot1000 ot1001 => Q .ret (LA.l5xr.mk' (t3, ot10, ot12, ot1000, ot1001, ()))) (fun ot17 ot13 ot19 ot1000 ot1001 ot10 ot12 => Q (.exit 0) (LA.l5xe0.mk' (ot17, ot13, ot19, ot1000, ot1001, ot10, ot12, ()))) n x.1 x.2.1 x.2.2.1 x.2.2.2.1 x.2.2.2.2.1 x.2.2.2.2.2.1 x.2.2.2.2.2.2.1 x.2.2.2.2.2.2.2.1
def LA.ct : Cuts := { lp := [(5, fun st Q => LA.l5.k.as st fun x => ∃ n, LA.l5.X Q n x)], jn := [], ex := [], pl := [(11, [.one 0, .one 1, .one 2, .one 3, .one 4, .one 5, .any [] [(6, []), (7, []), (8, []), (9, []), (10, []), (11, []), (12, []), (13, []), (14, []), (15, []), (16, []), (17, []), (18, [])], .one 19, .one 20, .one 21, .any [] [(22, []), (23, []), (24, []), (25, []), (26, []), (27, []), (28, []), (29, []), (30, []), (31, [])]])] }
def LA.cx : Cx := cxOf tyLH byL ptrL borL rowL false [(30, IB.F), (33, EB.F), (47, VA.F)] [] [] [(37, DB.S), (48, HB.S), (50, FB.S), (49, NA.S)] [(17, [(1000, 17), (1001, 13)])] glL [] tyR [(1001, [(0, 10), (1, 12)])] []
def LA.us : List (Nat × ((AE → St → Prop) → AE → St → Prop)) := []
theorem LA.l5.eq (Q : AE → St → Prop) (n : Nat) (x : LA.l5.k.D) : LA.l5.X Q (n + 1) x = awp LA.cx LA.ct (lpAt 5 Tryd.f21) (lpQ LA.l5.k (LA.l5.X Q n) LA.l5.ex Q) (lpQ LA.l5.k (LA.l5.X Q n) LA.l5.ex Q) (LA.l5.k.mk' x) := by kernel_rfl
theorem LA.l5.lp : LpOk LA.cx LA.ct (usOf LA.ct.ex LA.us) (lpAt 5 Tryd.f21) := lp_gen 5 (by kernel_rfl) LA.l5.k LA.l5.ex LA.l5.X (by kernel_rfl) (by intro Q x; kernel_rfl) LA.l5.eq (fun _ _ => trivial)
def LA.inn : Sk := ⟨[], 1, [(0, .ptr 1000 0)], [(1000, .box 99 tJournalH), (1001, .box 87 tDiskH), (10, .row 88 (.arr 64 (.int .u8))), (12, .row 90 twrite)], [((1000, 0), 2004), ((1001, 0), 21), ((1001, 1), 25)]⟩
def LA.out0 : Sk := ⟨[], 2, [(0, .ptr 1002 0), (1, .var (.int .i64))], [(10, .row 88 (.arr 64 (.int .u8))), (12, .row 90 twrite), (1000, .box 99 tJournalH), (1001, .box 87 tDiskH), (1002, .box 73 tShelfH), (1003, .box 117 tMapH), (1004, .row 4 .bool)], [((1000, 0), 2004), ((1001, 0), 21), ((1001, 1), 25), ((1002, 49), 2008), ((1002, 0), 2002), ((1003, 0), 2009)]⟩
def LA.out1 : Sk := ⟨[], 2, [(0, .nilp), (1, .var (.int .i64))], [(10, .row 88 (.arr 64 (.int .u8))), (12, .row 90 twrite), (1000, .box 99 tJournalH), (1001, .box 87 tDiskH)], [((1000, 0), 2004), ((1001, 0), 21), ((1001, 1), 25)]⟩
def LA.outs : Nat → Sk := fun i => lkSk i [(0, LA.out0), (1, LA.out1)]
def LA.S : SFn := ⟨LA.inn, LA.outs, fun (x : JournalH × DiskH × (List (List Int)) × (List write) × Unit) (J : (i : Nat) → (LA.outs i).D → Prop) => LA x.1 x.2.1 x.2.2.1 x.2.2.2.1 (fun r1 ot10 ot12 ot1000 ot1001 ot1002 ot1003 ot1004 => J 0 ((r1, ot10, ot12, ot1000, ot1001, ot1002, ot1003, ot1004, ()) : Int × (List (List Int)) × (List write) × JournalH × DiskH × ShelfH × MapH × (List Bool) × Unit)) (fun r1 ot10 ot12 ot1000 ot1001 => J 1 ((r1, ot10, ot12, ot1000, ot1001, ()) : Int × (List (List Int)) × (List write) × JournalH × DiskH × Unit))⟩
theorem LA.eq (x : LA.inn.D) (J : (i : Nat) → (LA.outs i).D → Prop) : LA.S.F x J = fnAS LA.cx LA.ct Tryd.f21 LA.inn LA.outs x J := by kernel_rfl
theorem LA.good : Go.Iv.SOK Tryd.prog 21 LA.S := goodS_gen (us := LA.us) (cxOk baseH rows (l := [(30, IB.F), (33, EB.F), (47, VA.F)]) (scL := [(37, DB.S), (48, HB.S), (50, FB.S), (49, NA.S)]) ⟨IB.good, EB.good, VA.good, trivial⟩ ⟨DB.good, HB.good, FB.good, NA.good, trivial⟩ glOk rtOk) Tryd.func21 (by kernel_rfl) (by kernel_rfl) (S := LA.S) LA.eq (by kernel_rfl) (by kernel_rfl) (by kernel_rfl) (L := [lpAt 5 Tryd.f21]) (M := []) (by kernel_rfl) (by kernel_rfl) ⟨LA.l5.lp, trivial⟩ trivial
end Go.Iw
