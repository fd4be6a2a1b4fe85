/- The program's functions do what the plain ones do. -/
import Derived.Test.YtcpeakceigidpaaDoorVSo1
set_option linter.all false
namespace Go.Iw
open Go.Iv Go.Proofs
attribute [local irreducible] fnA fnAS awp
set_option maxHeartbeats 4000000
set_option maxRecDepth 100000
def CA.l3xe0 : Sk := ⟨[], 199, [(2, .ptr 2 0), (4, .ptr 4 0), (5, .ptr 5 0)], [(2, .box 111 (.arr 8 (.int .u32))), (4, .box 111 (.arr 8 (.int .u32))), (5, .box 132 (.arr 64 (.int .u32)))], []⟩
def CA.l8xe2 : Sk := ⟨[], 199, [(2, .ptr 2 0), (4, .ptr 4 0), (5, .ptr 5 0)], [(2, .box 111 (.arr 8 (.int .u32))), (4, .box 111 (.arr 8 (.int .u32))), (5, .box 132 (.arr 64 (.int .u32)))], []⟩
def CA.l16xe4 : Sk := ⟨[], 199, [(2, .ptr 2 0), (4, .ptr 4 0), (12, .ptr 12 0)], [(2, .box 111 (.arr 8 (.int .u32))), (4, .box 111 (.arr 8 (.int .u32))), (12, .box 111 (.arr 8 (.int .u32)))], []⟩
def CA.l26xe6 : Sk := ⟨[], 199, [(2, .ptr 2 0), (4, .ptr 4 0)], [(2, .box 111 (.arr 8 (.int .u32))), (4, .box 111 (.arr 8 (.int .u32)))], []⟩
def CA.l3.k : Sk := ⟨[], 199, [(1, .var (.sl 5 (.int .u8))), (2, .ptr 2 0), (4, .ptr 4 0), (5, .ptr 5 0), (21, .var (.int .i64))], [(2, .box 111 (.arr 8 (.int .u32))), (4, .box 111 (.arr 8 (.int .u32))), (5, .box 132 (.arr 64 (.int .u32)))], []⟩
def CA.l8.k : Sk := ⟨[], 199, [(2, .ptr 2 0), (4, .ptr 4 0), (5, .ptr 5 0), (7, .var (.int .i64))], [(2, .box 111 (.arr 8 (.int .u32))), (4, .box 111 (.arr 8 (.int .u32))), (5, .box 132 (.arr 64 (.int .u32)))], []⟩
def CA.l16.k : Sk := ⟨[], 199, [(2, .ptr 2 0), (4, .ptr 4 0), (5, .ptr 5 0), (12, .ptr 12 0), (104, .var (.int .i64))], [(2, .box 111 (.arr 8 (.int .u32))), (4, .box 111 (.arr 8 (.int .u32))), (5, .box 132 (.arr 64 (.int .u32))), (12, .box 111 (.arr 8 (.int .u32)))], []⟩
def CA.l26.k : Sk := ⟨[], 199, [(2, .ptr 2 0), (4, .ptr 4 0), (12, .ptr 12 0), (186, .var (.int .i64))], [(2, .box 111 (.arr 8 (.int .u32))), (4, .box 111 (.arr 8 (.int .u32))), (12, .box 111 (.arr 8 (.int .u32)))], []⟩
def CA.l3.ex : List (AE × Sk) := [((.exit 0), CA.l3xe0)]
def CA.l3.X (Q : AE → St → Prop) (n : Nat) (x : (List Int) × Int × (List Int) × (List Int) × (List Int) × Unit) : Prop := CA.l3 (fun oh2 ot4 ow5 => Q (.exit 0) (CA.l3xe0.mk' (oh2, ot4, ow5, ()))) n x.1 x.2.1 x.2.2.1 x.2.2.2.1 x.2.2.2.2.1
def CA.l8.ex : List (AE × Sk) := [((.exit 2), CA.l8xe2)]
def CA.l8.X (Q : AE → St → Prop) (n : Nat) (x : Int × (List Int) × (List Int) × (List Int) × Unit) : Prop := CA.l8 (fun oh2 ot4 ow5 => Q (.exit 2) (CA.l8xe2.mk' (oh2, ot4, ow5, ()))) n x.1 x.2.1 x.2.2.1 x.2.2.2.1
def CA.l16.ex : List (AE × Sk) := [((.exit 4), CA.l16xe4)]
def CA.l16.X (Q : AE → St → Prop) (n : Nat) (x : Int × (List Int) × (List Int) × (List Int) × (List Int) × Unit) : Prop := CA.l16 (fun oh2 ot4 ov12 => Q (.exit 4) (CA.l16xe4.mk' (oh2, ot4, ov12, ()))) n x.1 x.2.1 x.2.2.1 x.2.2.2.1 x.2.2.2.2.1
def CA.l26.ex : List (AE × Sk) := [((.exit 6), CA.l26xe6)]
def CA.l26.X (Q : AE → St → Prop) (n : Nat) (x : Int × (List Int) × (List Int) × (List Int) × Unit) : Prop := CA.l26 (fun oh2 ot4 => Q (.exit 6) (CA.l26xe6.mk' (oh2, ot4, ()))) n x.1 x.2.1 x.2.2.1 x.2.2.2.1
def CA.ct : Cuts := { lp := [(3, fun st Q => CA.l3.k.as st fun x => ∃ n, CA.l3.X Q n x), (8, fun st Q => CA.l8.k.as st fun x => ∃ n, CA.l8.X Q n x), (16, fun st Q => CA.l16.k.as st fun x => ∃ n, CA.l16.X Q n x), (26, fun st Q => CA.l26.k.as st fun x => ∃ n, CA.l26.X Q n x)], jn := [], ex := [], pl := [(5, [.any [] [(0, []), (1, []), (2, []), (3, []), (4, []), (5, []), (6, []), (7, []), (8, []), (9, []), (10, []), (11, []), (12, []), (13, []), (14, []), (15, []), (16, []), (17, []), (18, []), (19, []), (20, []), (21, []), (22, []), (23, []), (24, []), (25, []), (26, []), (27, []), (28, []), (29, []), (30, []), (31, []), (32, []), (33, []), (34, [])], .one 35]), (10, [.any [] [(0, []), (1, []), (2, []), (3, []), (4, []), (5, []), (6, []), (7, []), (8, []), (9, [])]]), (13, [.any [] [(0, []), (1, []), (2, []), (3, []), (4, []), (5, []), (6, []), (7, []), (8, []), (9, []), (10, []), (11, []), (12, []), (13, []), (14, [])], .one 15]), (18, [.any [] [(0, []), (1, []), (2, []), (3, []), (4, []), (5, [])]]), (20, [.any [] [(0, []), (1, []), (2, []), (3, []), (4, []), (5, []), (6, []), (7, []), (8, []), (9, []), (10, []), (11, []), (12, []), (13, []), (14, []), (15, []), (16, []), (17, []), (18, []), (19, []), (20, []), (21, []), (22, []), (23, [])]]), (28, [.any [] [(0, []), (1, []), (2, []), (3, []), (4, []), (5, []), (6, []), (7, [])], .one 8])] }
def CA.cx : Cx := cxOf tyL byL ptrL borL rowL false [(72, YA.F)] [] [] [] [] glL [] tyR [] []
def CA.us : List (Nat × ((AE → St → Prop) → AE → St → Prop)) := []
theorem CA.l3.eq (Q : AE → St → Prop) (n : Nat) (x : CA.l3.k.D) : CA.l3.X Q (n + 1) x = awp CA.cx CA.ct (lpAt 3 Tryd.f56) (lpQ CA.l3.k (CA.l3.X Q n) CA.l3.ex Q) (lpQ CA.l3.k (CA.l3.X Q n) CA.l3.ex Q) (CA.l3.k.mk' x) := by kernel_rfl
theorem CA.l3.lp : LpOk CA.cx CA.ct (usOf CA.ct.ex CA.us) (lpAt 3 Tryd.f56) := lp_gen 3 (by kernel_rfl) CA.l3.k CA.l3.ex CA.l3.X (by kernel_rfl) (by intro Q x; kernel_rfl) CA.l3.eq (fun _ _ => trivial)
theorem CA.l8.eq (Q : AE → St → Prop) (n : Nat) (x : CA.l8.k.D) : CA.l8.X Q (n + 1) x = awp CA.cx CA.ct (lpAt 8 Tryd.f56) (lpQ CA.l8.k (CA.l8.X Q n) CA.l8.ex Q) (lpQ CA.l8.k (CA.l8.X Q n) CA.l8.ex Q) (CA.l8.k.mk' x) := by kernel_rfl
theorem CA.l8.lp : LpOk CA.cx CA.ct (usOf CA.ct.ex CA.us) (lpAt 8 Tryd.f56) := lp_gen 8 (by kernel_rfl) CA.l8.k CA.l8.ex CA.l8.X (by kernel_rfl) (by intro Q x; kernel_rfl) CA.l8.eq (fun _ _ => trivial)
theorem CA.l16.eq (Q : AE → St → Prop) (n : Nat) (x : CA.l16.k.D) : CA.l16.X Q (n + 1) x = awp CA.cx CA.ct (lpAt 16 Tryd.f56) (lpQ CA.l16.k (CA.l16.X Q n) CA.l16.ex Q) (lpQ CA.l16.k (CA.l16.X Q n) CA.l16.ex Q) (CA.l16.k.mk' x) := by kernel_rfl
theorem CA.l16.lp : LpOk CA.cx CA.ct (usOf CA.ct.ex CA.us) (lpAt 16 Tryd.f56) := lp_gen 16 (by kernel_rfl) CA.l16.k CA.l16.ex CA.l16.X (by kernel_rfl) (by intro Q x; kernel_rfl) CA.l16.eq (fun _ _ => trivial)
theorem CA.l26.eq (Q : AE → St → Prop) (n : Nat) (x : CA.l26.k.D) : CA.l26.X Q (n + 1) x = awp CA.cx CA.ct (lpAt 26 Tryd.f56) (lpQ CA.l26.k (CA.l26.X Q n) CA.l26.ex Q) (lpQ CA.l26.k (CA.l26.X Q n) CA.l26.ex Q) (CA.l26.k.mk' x) := by kernel_rfl
theorem CA.l26.lp : LpOk CA.cx CA.ct (usOf CA.ct.ex CA.us) (lpAt 26 Tryd.f56) := lp_gen 26 (by kernel_rfl) CA.l26.k CA.l26.ex CA.l26.X (by kernel_rfl) (by intro Q x; kernel_rfl) CA.l26.eq (fun _ _ => trivial)
def CA.ps : List PS := [.t (.arr 8 (.int .u32)), .t (.sl 5 (.int .u8))]
def CA.G (x : (List Int) × (List Int) × Unit) (J : List AV0 → Prop) : Prop := CA x.1 x.2.1 (fun r0 => J [.tv (.arr 8 (.int .u32)) r0])
def CA.F : List AV0 → (List AV0 → Prop) → Prop := byPs CA.ps CA.G
theorem CA.eq (x : psD CA.ps) (J : List AV0 → Prop) : CA.G x J = fnA CA.cx CA.ct Tryd.f56 (psMk CA.ps x) J := by kernel_rfl
theorem CA.good : Go.Iv.Good Tryd.prog 56 CA.F := good_gen (us := CA.us) (cxOk base rows (l := [(72, YA.F)]) (scL := []) ⟨YA.good, trivial⟩ trivial glOk rtOk) Tryd.func56 (by kernel_rfl) (by kernel_rfl) CA.ps CA.G CA.eq (by kernel_rfl) (by kernel_rfl) (L := [lpAt 3 Tryd.f56, lpAt 8 Tryd.f56, lpAt 16 Tryd.f56, lpAt 26 Tryd.f56]) (M := []) (by kernel_rfl) (by kernel_rfl) ⟨CA.l3.lp, CA.l8.lp, CA.l16.lp, CA.l26.lp, trivial⟩ trivial
def DA.l3xe0 : Sk := ⟨[], 81, [(0, .var (.sl 5 (.int .u8))), (2, .ptr 2 0), (3, .row 3)], [(2, .box 29 (.arr 32 (.int .u8))), (3, .row 5 (.int .u8))], []⟩
def DA.l7xe2 : Sk := ⟨[], 81, [(2, .ptr 2 0), (3, .row 3)], [(2, .box 29 (.arr 32 (.int .u8))), (3, .row 5 (.int .u8))], []⟩
def DA.l11xe4 : Sk := ⟨[], 81, [(2, .ptr 2 0), (6, .ptr 6 0)], [(2, .box 29 (.arr 32 (.int .u8))), (6, .box 111 (.arr 8 (.int .u32)))], []⟩
def DA.l16xe6 : Sk := ⟨[], 81, [(2, .ptr 2 0), (7, .ptr 7 0)], [(2, .box 29 (.arr 32 (.int .u8))), (7, .box 29 (.arr 32 (.int .u8)))], []⟩
def DA.l3.k : Sk := ⟨[], 81, [(0, .var (.sl 5 (.int .u8))), (2, .ptr 2 0), (3, .row 3)], [(2, .box 29 (.arr 32 (.int .u8))), (3, .row 5 (.int .u8))], []⟩
def DA.l7.k : Sk := ⟨[], 81, [(2, .ptr 2 0), (3, .row 3), (4, .var (.int .u64)), (5, .var (.int .i64))], [(2, .box 29 (.arr 32 (.int .u8))), (3, .row 5 (.int .u8))], []⟩
def DA.l11.k : Sk := ⟨[3], 81, [(2, .ptr 2 0), (3, .var (.sl 5 (.int .u8))), (6, .ptr 6 0)], [(2, .box 29 (.arr 32 (.int .u8))), (6, .box 111 (.arr 8 (.int .u32)))], []⟩
def DA.l16.k : Sk := ⟨[], 81, [(2, .ptr 2 0), (7, .ptr 7 0), (48, .var (.arr 8 (.int .u32))), (49, .var (.int .i64))], [(2, .box 29 (.arr 32 (.int .u8))), (7, .box 29 (.arr 32 (.int .u8)))], []⟩
def DA.l3.ex : List (AE × Sk) := [((.exit 0), DA.l3xe0)]
def DA.l3.X (Q : AE → St → Prop) (n : Nat) (x : (List Int) × (List Int) × (List Int) × Unit) : Prop := DA.l3 (fun p0 ot2 oall3 => Q (.exit 0) (DA.l3xe0.mk' (p0, ot2, oall3, ()))) n x.1 x.2.1 x.2.2.1
def DA.l7.ex : List (AE × Sk) := [((.exit 2), DA.l7xe2)]
def DA.l7.X (Q : AE → St → Prop) (n : Nat) (x : Int × Int × (List Int) × (List Int) × Unit) : Prop := DA.l7 (fun ot2 oall3 => Q (.exit 2) (DA.l7xe2.mk' (ot2, oall3, ()))) n x.1 x.2.1 x.2.2.1 x.2.2.2.1
def DA.l11.ex : List (AE × Sk) := [((.exit 4), DA.l11xe4)]
def DA.l11.X (Q : AE → St → Prop) (n : Nat) (x : (List Int) × (List Int) × (List Int) × Unit) : Prop := DA.l11 (fun ot2 oh6 => Q (.exit 4) (DA.l11xe4.mk' (ot2, oh6, ()))) n x.1 x.2.1 x.2.2.1
def DA.l16.ex : List (AE × Sk) := [((.exit 6), DA.l16xe6)]
def DA.l16.X (Q : AE → St → Prop) (n : Nat) (x : (List Int) × Int × (List Int) × (List Int) × Unit) : Prop := DA.l16 (fun ot2 ok7 => Q (.exit 6) (DA.l16xe6.mk' (ot2, ok7, ()))) n x.1 x.2.1 x.2.2.1 x.2.2.2.1
def DA.ct : Cuts := { lp := [(3, fun st Q => DA.l3.k.as st fun x => ∃ n, DA.l3.X Q n x), (7, fun st Q => DA.l7.k.as st fun x => ∃ n, DA.l7.X Q n x), (11, fun st Q => DA.l11.k.as st fun x => ∃ n, DA.l11.X Q n x), (16, fun st Q => DA.l16.k.as st fun x => ∃ n, DA.l16.X Q n x)], jn := [], ex := [], pl := [(13, [.frz 3, .any [] [(0, []), (1, []), (2, []), (3, [])], .one 4])] }
def DA.cx : Cx := cxOf tyL byL ptrL borL rowL false [(56, CA.F)] [3] [] [] [] glL [] tyR [] []
def DA.us : List (Nat × ((AE → St → Prop) → AE → St → Prop)) := []
theorem DA.l3.eq (Q : AE → St → Prop) (n : Nat) (x : DA.l3.k.D) : DA.l3.X Q (n + 1) x = awp DA.cx DA.ct (lpAt 3 Tryd.f29) (lpQ DA.l3.k (DA.l3.X Q n) DA.l3.ex Q) (lpQ DA.l3.k (DA.l3.X Q n) DA.l3.ex Q) (DA.l3.k.mk' x) := by kernel_rfl
theorem DA.l3.lp : LpOk DA.cx DA.ct (usOf DA.ct.ex DA.us) (lpAt 3 Tryd.f29) := lp_gen 3 (by kernel_rfl) DA.l3.k DA.l3.ex DA.l3.X (by kernel_rfl) (by intro Q x; kernel_rfl) DA.l3.eq (fun _ _ => trivial)
theorem DA.l7.eq (Q : AE → St → Prop) (n : Nat) (x : DA.l7.k.D) : DA.l7.X Q (n + 1) x = awp DA.cx DA.ct (lpAt 7 Tryd.f29) (lpQ DA.l7.k (DA.l7.X Q n) DA.l7.ex Q) (lpQ DA.l7.k (DA.l7.X Q n) DA.l7.ex Q) (DA.l7.k.mk' x) := by kernel_rfl
theorem DA.l7.lp : LpOk DA.cx DA.ct (usOf DA.ct.ex DA.us) (lpAt 7 Tryd.f29) := lp_gen 7 (by kernel_rfl) DA.l7.k DA.l7.ex DA.l7.X (by kernel_rfl) (by intro Q x; kernel_rfl) DA.l7.eq (fun _ _ => trivial)
theorem DA.l11.eq (Q : AE → St → Prop) (n : Nat) (x : DA.l11.k.D) : DA.l11.X Q (n + 1) x = awp DA.cx DA.ct (lpAt 11 Tryd.f29) (lpQ DA.l11.k (DA.l11.X Q n) DA.l11.ex Q) (lpQ DA.l11.k (DA.l11.X Q n) DA.l11.ex Q) (DA.l11.k.mk' x) := by kernel_rfl
theorem DA.l11.lp : LpOk DA.cx DA.ct (usOf DA.ct.ex DA.us) (lpAt 11 Tryd.f29) := lp_gen 11 (by kernel_rfl) DA.l11.k DA.l11.ex DA.l11.X (by kernel_rfl) (by intro Q x; kernel_rfl) DA.l11.eq (fun _ _ => trivial)
theorem DA.l16.eq (Q : AE → St → Prop) (n : Nat) (x : DA.l16.k.D) : DA.l16.X Q (n + 1) x = awp DA.cx DA.ct (lpAt 16 Tryd.f29) (lpQ DA.l16.k (DA.l16.X Q n) DA.l16.ex Q) (lpQ DA.l16.k (DA.l16.X Q n) DA.l16.ex Q) (DA.l16.k.mk' x) := by kernel_rfl
theorem DA.l16.lp : LpOk DA.cx DA.ct (usOf DA.ct.ex DA.us) (lpAt 16 Tryd.f29) := lp_gen 16 (by kernel_rfl) DA.l16.k DA.l16.ex DA.l16.X (by kernel_rfl) (by intro Q x; kernel_rfl) DA.l16.eq (fun _ _ => trivial)
def DA.ps : List PS := [.t (.sl 5 (.int .u8))]
def DA.G (x : (List Int) × Unit) (J : List AV0 → Prop) : Prop := DA x.1 (fun r0 => J [.tv (.arr 32 (.int .u8)) r0])
def DA.F : List AV0 → (List AV0 → Prop) → Prop := byPs DA.ps DA.G
theorem DA.eq (x : psD DA.ps) (J : List AV0 → Prop) : DA.G x J = fnA DA.cx DA.ct Tryd.f29 (psMk DA.ps x) J := by kernel_rfl
theorem DA.good : Go.Iv.Good Tryd.prog 29 DA.F := good_gen (us := DA.us) (cxOk base rows (l := [(56, CA.F)]) (scL := []) ⟨CA.good, trivial⟩ trivial glOk rtOk) Tryd.func29 (by kernel_rfl) (by kernel_rfl) DA.ps DA.G DA.eq (by kernel_rfl) (by kernel_rfl) (L := [lpAt 3 Tryd.f29, lpAt 7 Tryd.f29, lpAt 11 Tryd.f29, lpAt 16 Tryd.f29]) (M := []) (by kernel_rfl) (by kernel_rfl) ⟨DA.l3.lp, DA.l7.lp, DA.l11.lp, DA.l16.lp, trivial⟩ trivial
def UA.ct : Cuts := { lp := [], jn := [], ex := [], pl := [] }
def UA.cx : Cx := cxOf tyL byL ptrL borL rowL false [] [] [] [] [] glL [] tyR [] []
def UA.us : List (Nat × ((AE → St → Prop) → AE → St → Prop)) := []
def UA.ps : List PS := [.rp tDisk]
def UA.G (x : Disk × Unit) (J : List AV0 → Prop) : Prop := UA x.1 (fun r0 => J [.tv (.int .i64) r0])
def UA.F : List AV0 → (List AV0 → Prop) → Prop := byPs UA.ps UA.G
theorem UA.eq (x : psD UA.ps) (J : List AV0 → Prop) : UA.G x J = fnA UA.cx UA.ct Tryd.f38 (psMk UA.ps x) J := by kernel_rfl
theorem UA.good : Go.Iv.Good Tryd.prog 38 UA.F := good_gen (us := UA.us) (cxOk base rows (l := []) (scL := []) trivial trivial glOk rtOk) Tryd.func38 (by kernel_rfl) (by kernel_rfl) UA.ps UA.G UA.eq (by kernel_rfl) (by kernel_rfl) (L := []) (M := []) (by kernel_rfl) (by kernel_rfl) trivial trivial
def VA.ct : Cuts := { lp := [], jn := [], ex := [], pl := [] }
def VA.cx : Cx := cxOf tyL byL ptrL borL rowL false [(38, UA.F)] [] [] [] [] glL [] tyR [] []
def VA.us : List (Nat × ((AE → St → Prop) → AE → St → Prop)) := []
def VA.ps : List PS := [.rp tJournal]
def VA.G (x : Journal × Unit) (J : List AV0 → Prop) : Prop := VA x.1 (fun r0 => J [.tv (.int .i64) r0])
def VA.F : List AV0 → (List AV0 → Prop) → Prop := byPs VA.ps VA.G
theorem VA.eq (x : psD VA.ps) (J : List AV0 → Prop) : VA.G x J = fnA VA.cx VA.ct Tryd.f47 (psMk VA.ps x) J := by kernel_rfl
theorem VA.good : Go.Iv.Good Tryd.prog 47 VA.F := good_gen (us := VA.us) (cxOk base rows (l := [(38, UA.F)]) (scL := []) ⟨UA.good, trivial⟩ trivial glOk rtOk) Tryd.func47 (by kernel_rfl) (by kernel_rfl) VA.ps VA.G VA.eq (by kernel_rfl) (by kernel_rfl) (L := []) (M := []) (by kernel_rfl) (by kernel_rfl) trivial trivial
def UB.ct : Cuts := { lp := [], jn := [], ex := [], pl := [] }
def UB.cx : Cx := cxOf tyL byL ptrL borL rowL false [] [] [] [] [] glL [] tyR [] []
def UB.us : List (Nat × ((AE → St → Prop) → AE → St → Prop)) := []
def UB.ps : List PS := [.nil]
def UB.G (x : Unit) (J : List AV0 → Prop) : Prop := UB (fun r0 => J [.tv (.int .i64) r0])
def UB.F : List AV0 → (List AV0 → Prop) → Prop := byPs UB.ps UB.G
theorem UB.eq (x : psD UB.ps) (J : List AV0 → Prop) : UB.G x J = fnA UB.cx UB.ct Tryd.f47 (psMk UB.ps x) J := by kernel_rfl
theorem UB.good : Go.Iv.Good Tryd.prog 47 UB.F := good_gen (us := UB.us) (cxOk base rows (l := []) (scL := []) trivial trivial glOk rtOk) Tryd.func47 (by kernel_rfl) (by kernel_rfl) UB.ps UB.G UB.eq (by kernel_rfl) (by kernel_rfl) (L := []) (M := []) (by kernel_rfl) (by kernel_rfl) trivial trivial
def QB.ct : Cuts := { lp := [], jn := [], ex := [], pl := [] }
def QB.cx : Cx := cxOf tyL byL ptrL borL rowL false [] [] [] [] [] glL [] tyR [] []
def QB.us : List (Nat × ((AE → St → Prop) → AE → St → Prop)) := []
def QB.ps : List PS := [.t (.int .i64)]
def QB.G (x : Int × Unit) (J : List AV0 → Prop) : Prop := QB x.1 (fun r0 => J [.tv .bool r0])
def QB.F : List AV0 → (List AV0 → Prop) → Prop := byPs QB.ps QB.G
theorem QB.eq (x : psD QB.ps) (J : List AV0 → Prop) : QB.G x J = fnA QB.cx QB.ct Tryd.f44 (psMk QB.ps x) J := by kernel_rfl
theorem QB.good : Go.Iv.Good Tryd.prog 44 QB.F := good_gen (us := QB.us) (cxOk base rows (l := []) (scL := []) trivial trivial glOk rtOk) Tryd.func44 (by kernel_rfl) (by kernel_rfl) QB.ps QB.G QB.eq (by kernel_rfl) (by kernel_rfl) (L := []) (M := []) (by kernel_rfl) (by kernel_rfl) trivial trivial
def AB.ct : Cuts := { lp := [], jn := [], ex := [], pl := [] }
def AB.cx : Cx := cxOf tyLH byL ptrL borL rowL false [] [] [] [] [] glL [(7, [(1, 3, 85)])] tyR [] []
def AB.us : List (Nat × ((AE → St → Prop) → AE → St → Prop)) := []
def AB.inn : Sk := ⟨[], 1, [(0, .var (.int .i64))], [], []⟩
def AB.out0 : Sk := ⟨[], 1, [(0, .ptr 1000 0)], [(1000, .box 87 tDiskH), (1001, .row 88 (.arr 64 (.int .u8))), (1002, .row 90 twrite)], [((1000, 0), 2003), ((1000, 1), 2005)]⟩
def AB.outs : Nat → Sk := fun i => lkSk i [(0, AB.out0)]
def AB.S : SFn := ⟨AB.inn, AB.outs, fun (x : Int × Unit) (J : (i : Nat) → (AB.outs i).D → Prop) => AB x.1 (fun ot1000 ot1001 ot1002 => J 0 ((ot1000, ot1001, ot1002, ()) : DiskH × (List (List Int)) × (List write) × Unit))⟩
theorem AB.eq (x : AB.inn.D) (J : (i : Nat) → (AB.outs i).D → Prop) : AB.S.F x J = fnAS AB.cx AB.ct Tryd.f28 AB.inn AB.outs x J := by kernel_rfl
theorem AB.good : Go.Iv.SOK Tryd.prog 28 AB.S := goodS_gen (us := AB.us) (cxOk baseH rows (l := []) (scL := []) trivial trivial glOk rtOk) Tryd.func28 (by kernel_rfl) (by kernel_rfl) (S := AB.S) AB.eq (by kernel_rfl) (by kernel_rfl) (by kernel_rfl) (L := []) (M := []) (by kernel_rfl) (by kernel_rfl) trivial trivial
def EA.xr : Sk := ⟨[], 47, [(4, .var (.sl 5 (.int .u8))), (5, .var (.int .i64))], [(1000, .box 87 tDiskH), (10, .row 88 (.arr 64 (.int .u8))), (11, .row 90 twrite)], [((1000, 0), 21), ((1000, 1), 23)]⟩
def EA.l7xe1 : Sk := ⟨[], 47, [(6, .ptr 6 0)], [(6, .box 88 (.arr 64 (.int .u8))), (1000, .box 87 tDiskH), (10, .row 88 (.arr 64 (.int .u8))), (11, .row 90 twrite)], [((1000, 0), 21), ((1000, 1), 23)]⟩
def EA.j91.k : Sk := ⟨[], 47, [(1, .var (.int .i64)), (6, .ptr 6 0), (33, .row 11), (34, .var (.int .i64)), (35, .var (.int .i64))], [(6, .box 88 (.arr 64 (.int .u8))), (1000, .box 87 tDiskH), (10, .row 88 (.arr 64 (.int .u8))), (11, .row 90 twrite)], [((1000, 0), 21), ((1000, 1), 23)]⟩
def EA.l7.k : Sk := ⟨[], 47, [(1, .var (.int .i64)), (6, .ptr 6 0), (33, .row 11), (34, .var (.int .i64)), (35, .var (.int .i64))], [(6, .box 88 (.arr 64 (.int .u8))), (1000, .box 87 tDiskH), (10, .row 88 (.arr 64 (.int .u8))), (11, .row 90 twrite)], [((1000, 0), 21), ((1000, 1), 23)]⟩
def EA.j4.k : Sk := ⟨[], 47, [(0, .ptr 1000 0), (1, .var (.int .i64)), (9, .var .bool)], [(1000, .box 87 tDiskH), (10, .row 88 (.arr 64 (.int .u8))), (11, .row 90 twrite)], [((1000, 0), 21), ((1000, 1), 23)]⟩
def EA.j91.X (U : AE → St → Prop) (x : Int × Int × Int × (List Int) × DiskH × (List (List Int)) × (List write) × Unit) : Prop := EA.j91 (fun at1 t34 t35 os6 ot1000 ot10 ot11 => U .normal (EA.l7.k.mk' (at1, t34, t35, os6, ot1000, ot10, ot11, ()))) x.1 x.2.1 x.2.2.1 x.2.2.2.1 x.2.2.2.2.1 x.2.2.2.2.2.1 x.2.2.2.2.2.2.1
def EA.l7.ex : List (AE × Sk) := [((.exit 1), EA.l7xe1)]
def EA.l7.X (Q : AE → St → Prop) (n : Nat) (x : Int × Int × Int × (List Int) × DiskH × (List (List Int)) × (List write) × Unit) : Prop := EA.l7 (fun os6 ot1000 ot10 ot11 => Q (.exit 1) (EA.l7xe1.mk' (os6, ot1000, ot10, ot11, ()))) n x.1 x.2.1 x.2.2.1 x.2.2.2.1 x.2.2.2.2.1 x.2.2.2.2.2.1 x.2.2.2.2.2.2.1
def EA.j4.X (U : AE → St → Prop) (x : Int × Bool × DiskH × (List (List Int)) × (List write) × Unit) : Prop := EA.j4 (fun t4 t5 ot1000 ot10 ot11 => U .ret (EA.xr.mk' (t4, t5, ot1000, ot10, ot11, ()))) x.1 x.2.1 x.2.2.1 x.2.2.2.1 x.2.2.2.2.1
def EA.ct : Cuts := { lp := [(7, fun st Q => EA.l7.k.as st fun x => ∃ n, EA.l7.X Q n x)], jn := [(4, fun st U => EA.j4.k.as st (EA.j4.X U)), (91, fun st U => EA.j91.k.as st (EA.j91.X U))], ex := [(.ret, EA.xr)], pl := [] }
def EA.cx : Cx := cxOf tyLH byL ptrL borL rowL true [(38, UA.F)] [] [] [] [] glL [] tyR [(1000, [(0, 10), (1, 11)])] []
def EA.us : List (Nat × ((AE → St → Prop) → AE → St → Prop)) := [(7, lpV EA.l7.k EA.l7.ex)]
theorem EA.j91.eq (U : AE → St → Prop) (x : EA.j91.k.D) : EA.j91.X U x = awp EA.cx EA.ct (jnAt 91 EA.cx EA.ct Tryd.f14).code ((lpV EA.l7.k EA.l7.ex) U) ((jnAt 91 EA.cx EA.ct Tryd.f14).cont ((lpV EA.l7.k EA.l7.ex) U)) (EA.j91.k.mk' x) := by kernel_rfl
theorem EA.j91.jn : JnOk EA.cx EA.ct (usOf EA.ct.ex EA.us) (jnAt 91 EA.cx EA.ct Tryd.f14) := jn_gen (some 7) (by kernel_rfl) EA.j91.k EA.j91.X (lpV EA.l7.k EA.l7.ex) (by kernel_rfl) (fun U h => h) EA.j91.eq
theorem EA.l7.eq (Q : AE → St → Prop) (n : Nat) (x : EA.l7.k.D) : EA.l7.X Q (n + 1) x = awp EA.cx EA.ct (lpAt 7 Tryd.f14) (lpQ EA.l7.k (EA.l7.X Q n) EA.l7.ex Q) (lpQ EA.l7.k (EA.l7.X Q n) EA.l7.ex Q) (EA.l7.k.mk' x) := by kernel_rfl
theorem EA.l7.lp : LpOk EA.cx EA.ct (usOf EA.ct.ex EA.us) (lpAt 7 Tryd.f14) := lp_gen 7 (by kernel_rfl) EA.l7.k EA.l7.ex EA.l7.X (by kernel_rfl) (by intro Q x; kernel_rfl) EA.l7.eq (fun Q n => lpV_lpQ (by kernel_rfl) (by kernel_rfl))
theorem EA.j4.eq (U : AE → St → Prop) (x : EA.j4.k.D) : EA.j4.X U x = awp EA.cx EA.ct (jnAt 4 EA.cx EA.ct Tryd.f14).code ((fnV EA.ct.ex) U) ((jnAt 4 EA.cx EA.ct Tryd.f14).cont ((fnV EA.ct.ex) U)) (EA.j4.k.mk' x) := by kernel_rfl
theorem EA.j4.jn : JnOk EA.cx EA.ct (usOf EA.ct.ex EA.us) (jnAt 4 EA.cx EA.ct Tryd.f14) := jn_gen none (by kernel_rfl) EA.j4.k EA.j4.X (fnV EA.ct.ex) (by kernel_rfl) (fun U h => h) EA.j4.eq
def EA.inn : Sk := ⟨[], 2, [(0, .ptr 1000 0), (1, .var (.int .i64))], [(1000, .box 87 tDiskH), (10, .row 88 (.arr 64 (.int .u8))), (11, .row 90 twrite)], [((1000, 0), 21), ((1000, 1), 23)]⟩
def EA.out0 : Sk := ⟨[], 2, [(0, .var (.sl 5 (.int .u8))), (1, .var (.int .i64))], [(10, .row 88 (.arr 64 (.int .u8))), (11, .row 90 twrite), (1000, .box 87 tDiskH)], [((1000, 0), 21), ((1000, 1), 23)]⟩
def EA.outs : Nat → Sk := fun i => lkSk i [(0, EA.out0)]
def EA.S : SFn := ⟨EA.inn, EA.outs, fun (x : Int × DiskH × (List (List Int)) × (List write) × Unit) (J : (i : Nat) → (EA.outs i).D → Prop) => EA x.1 x.2.1 x.2.2.1 x.2.2.2.1 (fun r0 r1 ot10 ot11 ot1000 => J 0 ((r0, r1, ot10, ot11, ot1000, ()) : (List Int) × Int × (List (List Int)) × (List write) × DiskH × Unit))⟩
theorem EA.eq (x : EA.inn.D) (J : (i : Nat) → (EA.outs i).D → Prop) : EA.S.F x J = fnAS EA.cx EA.ct Tryd.f14 EA.inn EA.outs x J := by kernel_rfl
theorem EA.good : Go.Iv.SOK Tryd.prog 14 EA.S := goodS_gen (us := EA.us) (cxOk baseH rows (l := [(38, UA.F)]) (scL := []) ⟨UA.good, trivial⟩ trivial glOk rtOk) Tryd.func14 (by kernel_rfl) (by kernel_rfl) (S := EA.S) EA.eq (by kernel_rfl) (by kernel_rfl) (by kernel_rfl) (L := [lpAt 7 Tryd.f14]) (M := [jnAt 4 EA.cx EA.ct Tryd.f14, jnAt 91 EA.cx EA.ct Tryd.f14]) (by kernel_rfl) (by kernel_rfl) ⟨EA.l7.lp, trivial⟩ ⟨EA.j4.jn, EA.j91.jn, trivial⟩
def BB.ct : Cuts := { lp := [], jn := [], ex := [], pl := [] }
def BB.cx : Cx := cxOf tyLH byL ptrL borL rowL false [] [] [] [] [] glL [] tyR [(1000, [(0, 3), (1, 4)])] []
def BB.us : List (Nat × ((AE → St → Prop) → AE → St → Prop)) := []
def BB.inn : Sk := ⟨[], 1, [(0, .ptr 1000 0)], [(1000, .box 87 tDiskH), (3, .row 88 (.arr 64 (.int .u8))), (4, .row 90 twrite)], [((1000, 0), 7), ((1000, 1), 9)]⟩
def BB.out0 : Sk := ⟨[], 1, [(0, .var .bool)], [(3, .row 88 (.arr 64 (.int .u8))), (4, .row 90 twrite), (1000, .box 87 tDiskH)], [((1000, 0), 7), ((1000, 1), 9)]⟩
def BB.outs : Nat → Sk := fun i => lkSk i [(0, BB.out0)]
def BB.S : SFn := ⟨BB.inn, BB.outs, fun (x : DiskH × (List (List Int)) × (List write) × Unit) (J : (i : Nat) → (BB.outs i).D → Prop) => BB x.1 x.2.1 x.2.2.1 (fun r0 ot3 ot4 ot1000 => J 0 ((r0, ot3, ot4, ot1000, ()) : Bool × (List (List Int)) × (List write) × DiskH × Unit))⟩
theorem BB.eq (x : BB.inn.D) (J : (i : Nat) → (BB.outs i).D → Prop) : BB.S.F x J = fnAS BB.cx BB.ct Tryd.f42 BB.inn BB.outs x J := by kernel_rfl
theorem BB.good : Go.Iv.SOK Tryd.prog 42 BB.S := goodS_gen (us := BB.us) (cxOk baseH rows (l := []) (scL := []) trivial trivial glOk rtOk) Tryd.func42 (by kernel_rfl) (by kernel_rfl) (S := BB.S) BB.eq (by kernel_rfl) (by kernel_rfl) (by kernel_rfl) (L := []) (M := []) (by kernel_rfl) (by kernel_rfl) trivial trivial
def HA.xr : Sk := ⟨[], 49, [(6, .var (.int .i64))], [(1000, .box 87 tDiskH), (10, .row 88 (.arr 64 (.int .u8))), (11, .row 90 twrite)], [((1000, 0), 21), ((1000, 1), 23)]⟩
def HA.j37.k : Sk := ⟨[], 49, [(8, .var .bool)], [(10, .row 88 (.arr 64 (.int .u8))), (11, .row 90 twrite), (1000, .box 87 tDiskH)], [((1000, 1), 23), ((1000, 0), 21)]⟩
def HA.j4.k : Sk := ⟨[], 49, [(0, .ptr 1000 0), (1, .var (.int .i64)), (2, .var (.sl 5 (.int .u8))), (22, .var .bool)], [(1000, .box 87 tDiskH), (10, .row 88 (.arr 64 (.int .u8))), (11, .row 90 twrite)], [((1000, 0), 21), ((1000, 1), 23)]⟩
def HA.j37.X (U : AE → St → Prop) (x : Bool × (List (List Int)) × (List write) × DiskH × Unit) : Prop := HA.j37 (fun t6 ot1000 ot10 ot11 => U .ret (HA.xr.mk' (t6, ot1000, ot10, ot11, ()))) x.1 x.2.1 x.2.2.1 x.2.2.2.1
def HA.j4.X (U : AE → St → Prop) (x : Int × (List Int) × Bool × DiskH × (List (List Int)) × (List write) × Unit) : Prop := HA.j4 (fun t6 ot1000 ot10 ot11 => U .ret (HA.xr.mk' (t6, ot1000, ot10, ot11, ()))) x.1 x.2.1 x.2.2.1 x.2.2.2.1 x.2.2.2.2.1 x.2.2.2.2.2.1
def HA.ct : Cuts := { lp := [], jn := [(4, fun st U => HA.j4.k.as st (HA.j4.X U)), (37, fun st U => HA.j37.k.as st (HA.j37.X U))], ex := [(.ret, HA.xr)], pl := [(8, [.app [6] [(0, [44, 0, 43]), (1, [44, 43]), (2, [44, 43]), (3, [44, 43]), (4, [44, 43]), (5, [44, 43]), (6, [44, 43])] 7, .one 8, .one 9, .one 10])] }
def HA.cx : Cx := cxOf tyLH byL ptrL borL rowL false [(38, UA.F)] [] [34] [(42, BB.S)] [] glL [] tyR [(1000, [(0, 10), (1, 11)])] []
def HA.us : List (Nat × ((AE → St → Prop) → AE → St → Prop)) := []
theorem HA.j37.eq (U : AE → St → Prop) (x : HA.j37.k.D) : HA.j37.X U x = awp HA.cx HA.ct (jnAt 37 HA.cx HA.ct Tryd.f18).code ((fnV HA.ct.ex) U) ((jnAt 37 HA.cx HA.ct Tryd.f18).cont ((fnV HA.ct.ex) U)) (HA.j37.k.mk' x) := by kernel_rfl
theorem HA.j37.jn : JnOk HA.cx HA.ct (usOf HA.ct.ex HA.us) (jnAt 37 HA.cx HA.ct Tryd.f18) := jn_gen none (by kernel_rfl) HA.j37.k HA.j37.X (fnV HA.ct.ex) (by kernel_rfl) (fun U h => h) HA.j37.eq
theorem HA.j4.eq (U : AE → St → Prop) (x : HA.j4.k.D) : HA.j4.X U x = awp HA.cx HA.ct (jnAt 4 HA.cx HA.ct Tryd.f18).code ((fnV HA.ct.ex) U) ((jnAt 4 HA.cx HA.ct Tryd.f18).cont ((fnV HA.ct.ex) U)) (HA.j4.k.mk' x) := by kernel_rfl
theorem HA.j4.jn : JnOk HA.cx HA.ct (usOf HA.ct.ex HA.us) (jnAt 4 HA.cx HA.ct Tryd.f18) := jn_gen none (by kernel_rfl) HA.j4.k HA.j4.X (fnV HA.ct.ex) (by kernel_rfl) (fun U h => h) HA.j4.eq
def HA.inn : Sk := ⟨[], 3, [(0, .ptr 1000 0), (1, .var (.int .i64)), (2, .var (.sl 5 (.int .u8)))], [(1000, .box 87 tDiskH), (10, .row 88 (.arr 64 (.int .u8))), (11, .row 90 twrite)], [((1000, 0), 21), ((1000, 1), 23)]⟩
def HA.out0 : Sk := ⟨[], 1, [(0, .var (.int .i64))], [(10, .row 88 (.arr 64 (.int .u8))), (11, .row 90 twrite), (1000, .box 87 tDiskH)], [((1000, 0), 21), ((1000, 1), 23)]⟩
def HA.outs : Nat → Sk := fun i => lkSk i [(0, HA.out0)]
def HA.S : SFn := ⟨HA.inn, HA.outs, fun (x : Int × (List Int) × DiskH × (List (List Int)) × (List write) × Unit) (J : (i : Nat) → (HA.outs i).D → Prop) => HA x.1 x.2.1 x.2.2.1 x.2.2.2.1 x.2.2.2.2.1 (fun r0 ot10 ot11 ot1000 => J 0 ((r0, ot10, ot11, ot1000, ()) : Int × (List (List Int)) × (List write) × DiskH × Unit))⟩
theorem HA.eq (x : HA.inn.D) (J : (i : Nat) → (HA.outs i).D → Prop) : HA.S.F x J = fnAS HA.cx HA.ct Tryd.f18 HA.inn HA.outs x J := by kernel_rfl
theorem HA.good : Go.Iv.SOK Tryd.prog 18 HA.S := goodS_gen (us := HA.us) (cxOk baseH rows (l := [(38, UA.F)]) (scL := [(42, BB.S)]) ⟨UA.good, trivial⟩ ⟨BB.good, trivial⟩ glOk rtOk) Tryd.func18 (by kernel_rfl) (by kernel_rfl) (S := HA.S) HA.eq (by kernel_rfl) (by kernel_rfl) (by kernel_rfl) (L := []) (M := [jnAt 4 HA.cx HA.ct Tryd.f18, jnAt 37 HA.cx HA.ct Tryd.f18]) (by kernel_rfl) (by kernel_rfl) trivial ⟨HA.j4.jn, HA.j37.jn, trivial⟩
end Go.Iw
