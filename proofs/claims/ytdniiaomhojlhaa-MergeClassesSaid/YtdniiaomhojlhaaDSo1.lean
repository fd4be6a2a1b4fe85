/- The program's functions do what the plain ones do. -/
import Derived.Test.YtdniiaomhojlhaaDHd
namespace Go.Iw
open Go.Iv Go.Proofs
attribute [local irreducible] fnA awp
set_option maxHeartbeats 4000000
set_option maxRecDepth 100000
set_option linter.unusedVariables false
def chart.Rising.l2xr : Sk := ⟨[], 22, [(2, .var .bool)], []⟩
def chart.Rising.l2xe0 : Sk := ⟨[], 22, [], []⟩
def chart.Rising.l2.k : Sk := ⟨[], 22, [(0, .var (.sl 27 tElem)), (3, .var (.int .i64))], []⟩
def chart.Rising.l2.ex : List (AE × Sk) := [(.ret, chart.Rising.l2xr), ((.exit 0), chart.Rising.l2xe0)]
def chart.Rising.l2.X (Q : AE → St → Prop) (n : Nat) (x : (List Elem) × Int × Unit) : Prop := chart.Rising.l2 (fun t2 => Q .ret (chart.Rising.l2xr.mk' (t2, ()))) (Q (.exit 0) (chart.Rising.l2xe0.mk' ())) n x.1 x.2.1
def chart.Rising.ct : Cuts := { lp := [(2, fun st Q => chart.Rising.l2.k.as st fun x => ∃ n, chart.Rising.l2.X Q n x)], jn := [], ex := [], pl := [(4, [.any [] [(0, []), (1, []), (2, []), (3, []), (4, []), (5, []), (6, []), (7, []), (8, []), (9, []), (10, []), (11, [])]])] }
def chart.Rising.cx : Cx := cxOf tyL byL borL rowL false [] []
def chart.Rising.us : List (Nat × ((AE → St → Prop) → AE → St → Prop)) := []
theorem chart.Rising.l2.eq (Q : AE → St → Prop) (n : Nat) (x : chart.Rising.l2.k.D) : chart.Rising.l2.X Q (n + 1) x = awp chart.Rising.cx chart.Rising.ct (lpAt 2 Try.f32) (lpQ chart.Rising.l2.k (chart.Rising.l2.X Q n) chart.Rising.l2.ex Q) (lpQ chart.Rising.l2.k (chart.Rising.l2.X Q n) chart.Rising.l2.ex Q) (chart.Rising.l2.k.mk' x) := by kernel_rfl
theorem chart.Rising.l2.lp : LpOk chart.Rising.cx chart.Rising.ct (usOf chart.Rising.ct.ex chart.Rising.us) (lpAt 2 Try.f32) := lp_gen 2 (by kernel_rfl) chart.Rising.l2.k chart.Rising.l2.ex chart.Rising.l2.X (by kernel_rfl) (by intro Q x; kernel_rfl) chart.Rising.l2.eq (fun _ _ => trivial)
def chart.Rising.ps : List PS := [.t (.sl 27 tElem)]
def chart.Rising.G (x : (List Elem) × Unit) (J : List AV0 → Prop) : Prop := chart.Rising x.1 (fun r0 => J [.tv .bool r0])
def chart.Rising.F : List AV0 → (List AV0 → Prop) → Prop := byPs chart.Rising.ps chart.Rising.G
theorem chart.Rising.eq (x : psD chart.Rising.ps) (J : List AV0 → Prop) : chart.Rising.G x J = fnA chart.Rising.cx chart.Rising.ct Try.f32 (psMk chart.Rising.ps x) J := by kernel_rfl
theorem chart.Rising.good : Go.Iv.Good Try.prog 32 chart.Rising.F := good_gen (us := chart.Rising.us) (cxOk base rows (l := []) trivial) Try.func32 (by kernel_rfl) (by kernel_rfl) chart.Rising.ps chart.Rising.G chart.Rising.eq (by kernel_rfl) (by kernel_rfl) (L := [lpAt 2 Try.f32]) (M := []) (by kernel_rfl) (by kernel_rfl) ⟨chart.Rising.l2.lp, trivial⟩ trivial
def wire.Right.l5xr : Sk := ⟨[], 70, [(2, .var .bool)], []⟩
def wire.Right.l5xe2 : Sk := ⟨[], 70, [(0, .var (.sl 27 tElem)), (4, .ptr 4 0), (9, .var (.sl 27 tElem)), (10, .var (.int .i64)), (11, .var (.int .i64))], [(4, .box 27 tElem)]⟩
def wire.Right.l2xr : Sk := ⟨[], 70, [(2, .var .bool)], []⟩
def wire.Right.l11xr : Sk := ⟨[], 70, [(2, .var .bool)], []⟩
def wire.Right.l11xe4 : Sk := ⟨[], 70, [(0, .var (.sl 27 tElem)), (4, .ptr 4 0), (9, .var (.sl 27 tElem)), (10, .var (.int .i64)), (11, .var (.int .i64))], [(4, .box 27 tElem)]⟩
def wire.Right.l2xe0 : Sk := ⟨[], 70, [(0, .var (.sl 27 tElem))], []⟩
def wire.Right.xr : Sk := ⟨[], 70, [(2, .var .bool)], []⟩
def wire.Right.j16.k : Sk := ⟨[], 70, [(0, .var (.sl 27 tElem)), (4, .ptr 4 0), (9, .var (.sl 27 tElem)), (10, .var (.int .i64)), (11, .var (.int .i64)), (23, .row 23), (24, .var (.int .i64)), (25, .var (.int .i64)), (34, .var .bool)], [(4, .box 27 tElem), (23, .row 3 (.int .i64))]⟩
def wire.Right.l5.k : Sk := ⟨[], 70, [(0, .var (.sl 27 tElem)), (4, .ptr 4 0), (9, .var (.sl 27 tElem)), (10, .var (.int .i64)), (11, .var (.int .i64)), (23, .row 23), (24, .var (.int .i64)), (25, .var (.int .i64))], [(4, .box 27 tElem), (23, .row 3 (.int .i64))]⟩
def wire.Right.l11.k : Sk := ⟨[], 70, [(0, .var (.sl 27 tElem)), (4, .ptr 4 0), (9, .var (.sl 27 tElem)), (10, .var (.int .i64)), (11, .var (.int .i64)), (44, .row 44), (45, .var (.int .i64)), (46, .var (.int .i64))], [(4, .box 27 tElem), (44, .row 9 .str)]⟩
def wire.Right.j34.k : Sk := ⟨[], 70, [(0, .var (.sl 27 tElem)), (9, .var (.sl 27 tElem)), (10, .var (.int .i64)), (11, .var (.int .i64)), (61, .var .bool)], []⟩
def wire.Right.l2.k : Sk := ⟨[], 70, [(0, .var (.sl 27 tElem)), (9, .var (.sl 27 tElem)), (10, .var (.int .i64)), (11, .var (.int .i64))], []⟩
def wire.Right.j16.X (U : AE → St → Prop) (x : (List Elem) × (List Elem) × Int × Int × Int × Int × Bool × Elem × (List Int) × Unit) : Prop := wire.Right.j16 (fun t2 => U .ret (wire.Right.l5xr.mk' (t2, ()))) (fun c0 t9 t10 t11 t24 t25 oe4 ot23 => U .normal (wire.Right.l5.k.mk' (c0, t9, t10, t11, t24, t25, oe4, ot23, ()))) x.1 x.2.1 x.2.2.1 x.2.2.2.1 x.2.2.2.2.1 x.2.2.2.2.2.1 x.2.2.2.2.2.2.1 x.2.2.2.2.2.2.2.1 x.2.2.2.2.2.2.2.2.1
def wire.Right.l5.ex : List (AE × Sk) := [(.ret, wire.Right.l5xr), ((.exit 2), wire.Right.l5xe2)]
def wire.Right.l5.X (Q : AE → St → Prop) (n : Nat) (x : (List Elem) × (List Elem) × Int × Int × Int × Int × Elem × (List Int) × Unit) : Prop := wire.Right.l5 (fun t2 => Q .ret (wire.Right.l5xr.mk' (t2, ()))) (fun c0 t9 t10 t11 oe4 => Q (.exit 2) (wire.Right.l5xe2.mk' (c0, t9, t10, t11, oe4, ()))) n x.1 x.2.1 x.2.2.1 x.2.2.2.1 x.2.2.2.2.1 x.2.2.2.2.2.1 x.2.2.2.2.2.2.1 x.2.2.2.2.2.2.2.1
def wire.Right.l11.ex : List (AE × Sk) := [(.ret, wire.Right.l11xr), ((.exit 4), wire.Right.l11xe4)]
def wire.Right.l11.X (Q : AE → St → Prop) (n : Nat) (x : (List Elem) × (List Elem) × Int × Int × Int × Int × Elem × (List ByteArray) × Unit) : Prop := wire.Right.l11 (fun t2 => Q .ret (wire.Right.l11xr.mk' (t2, ()))) (fun c0 t9 t10 t11 oe4 => Q (.exit 4) (wire.Right.l11xe4.mk' (c0, t9, t10, t11, oe4, ()))) n x.1 x.2.1 x.2.2.1 x.2.2.2.1 x.2.2.2.2.1 x.2.2.2.2.2.1 x.2.2.2.2.2.2.1 x.2.2.2.2.2.2.2.1
def wire.Right.j34.X (U : AE → St → Prop) (x : (List Elem) × (List Elem) × Int × Int × Bool × Unit) : Prop := wire.Right.j34 (fun t2 => U .ret (wire.Right.l2xr.mk' (t2, ()))) (fun c0 t9 t10 t11 => U .normal (wire.Right.l2.k.mk' (c0, t9, t10, t11, ()))) x.1 x.2.1 x.2.2.1 x.2.2.2.1 x.2.2.2.2.1
def wire.Right.l2.ex : List (AE × Sk) := [(.ret, wire.Right.l2xr), ((.exit 0), wire.Right.l2xe0)]
def wire.Right.l2.X (Q : AE → St → Prop) (n : Nat) (x : (List Elem) × (List Elem) × Int × Int × Unit) : Prop := wire.Right.l2 (fun t2 => Q .ret (wire.Right.l2xr.mk' (t2, ()))) (fun c0 => Q (.exit 0) (wire.Right.l2xe0.mk' (c0, ()))) n x.1 x.2.1 x.2.2.1 x.2.2.2.1
def wire.Right.ct : Cuts := { lp := [(2, fun st Q => wire.Right.l2.k.as st fun x => ∃ n, wire.Right.l2.X Q n x), (5, fun st Q => wire.Right.l5.k.as st fun x => ∃ n, wire.Right.l5.X Q n x), (11, fun st Q => wire.Right.l11.k.as st fun x => ∃ n, wire.Right.l11.X Q n x)], jn := [(16, fun st U => wire.Right.j16.k.as st (wire.Right.j16.X U)), (34, fun st U => wire.Right.j34.k.as st (wire.Right.j34.X U))], ex := [(.ret, wire.Right.xr)], pl := [] }
def wire.Right.cx : Cx := cxOf tyL byL borL rowL false [(32, chart.Rising.F)] []
def wire.Right.us : List (Nat × ((AE → St → Prop) → AE → St → Prop)) := [(2, lpV wire.Right.l2.k wire.Right.l2.ex), (5, lpV wire.Right.l5.k wire.Right.l5.ex)]
theorem wire.Right.j16.eq (U : AE → St → Prop) (x : wire.Right.j16.k.D) : wire.Right.j16.X U x = awp wire.Right.cx wire.Right.ct (jnAt 16 wire.Right.cx wire.Right.ct Try.f58).code ((lpV wire.Right.l5.k wire.Right.l5.ex) U) ((jnAt 16 wire.Right.cx wire.Right.ct Try.f58).cont ((lpV wire.Right.l5.k wire.Right.l5.ex) U)) (wire.Right.j16.k.mk' x) := by kernel_rfl
theorem wire.Right.j16.jn : JnOk wire.Right.cx wire.Right.ct (usOf wire.Right.ct.ex wire.Right.us) (jnAt 16 wire.Right.cx wire.Right.ct Try.f58) := jn_gen (some 5) (by kernel_rfl) wire.Right.j16.k wire.Right.j16.X (lpV wire.Right.l5.k wire.Right.l5.ex) (by kernel_rfl) (fun U h => h) wire.Right.j16.eq
theorem wire.Right.l5.eq (Q : AE → St → Prop) (n : Nat) (x : wire.Right.l5.k.D) : wire.Right.l5.X Q (n + 1) x = awp wire.Right.cx wire.Right.ct (lpAt 5 Try.f58) (lpQ wire.Right.l5.k (wire.Right.l5.X Q n) wire.Right.l5.ex Q) (lpQ wire.Right.l5.k (wire.Right.l5.X Q n) wire.Right.l5.ex Q) (wire.Right.l5.k.mk' x) := by kernel_rfl
theorem wire.Right.l5.lp : LpOk wire.Right.cx wire.Right.ct (usOf wire.Right.ct.ex wire.Right.us) (lpAt 5 Try.f58) := lp_gen 5 (by kernel_rfl) wire.Right.l5.k wire.Right.l5.ex wire.Right.l5.X (by kernel_rfl) (by intro Q x; kernel_rfl) wire.Right.l5.eq (fun Q n => lpV_lpQ (by kernel_rfl) (by kernel_rfl))
theorem wire.Right.l11.eq (Q : AE → St → Prop) (n : Nat) (x : wire.Right.l11.k.D) : wire.Right.l11.X Q (n + 1) x = awp wire.Right.cx wire.Right.ct (lpAt 11 Try.f58) (lpQ wire.Right.l11.k (wire.Right.l11.X Q n) wire.Right.l11.ex Q) (lpQ wire.Right.l11.k (wire.Right.l11.X Q n) wire.Right.l11.ex Q) (wire.Right.l11.k.mk' x) := by kernel_rfl
theorem wire.Right.l11.lp : LpOk wire.Right.cx wire.Right.ct (usOf wire.Right.ct.ex wire.Right.us) (lpAt 11 Try.f58) := lp_gen 11 (by kernel_rfl) wire.Right.l11.k wire.Right.l11.ex wire.Right.l11.X (by kernel_rfl) (by intro Q x; kernel_rfl) wire.Right.l11.eq (fun _ _ => trivial)
theorem wire.Right.j34.eq (U : AE → St → Prop) (x : wire.Right.j34.k.D) : wire.Right.j34.X U x = awp wire.Right.cx wire.Right.ct (jnAt 34 wire.Right.cx wire.Right.ct Try.f58).code ((lpV wire.Right.l2.k wire.Right.l2.ex) U) ((jnAt 34 wire.Right.cx wire.Right.ct Try.f58).cont ((lpV wire.Right.l2.k wire.Right.l2.ex) U)) (wire.Right.j34.k.mk' x) := by kernel_rfl
theorem wire.Right.j34.jn : JnOk wire.Right.cx wire.Right.ct (usOf wire.Right.ct.ex wire.Right.us) (jnAt 34 wire.Right.cx wire.Right.ct Try.f58) := jn_gen (some 2) (by kernel_rfl) wire.Right.j34.k wire.Right.j34.X (lpV wire.Right.l2.k wire.Right.l2.ex) (by kernel_rfl) (fun U h => h) wire.Right.j34.eq
theorem wire.Right.l2.eq (Q : AE → St → Prop) (n : Nat) (x : wire.Right.l2.k.D) : wire.Right.l2.X Q (n + 1) x = awp wire.Right.cx wire.Right.ct (lpAt 2 Try.f58) (lpQ wire.Right.l2.k (wire.Right.l2.X Q n) wire.Right.l2.ex Q) (lpQ wire.Right.l2.k (wire.Right.l2.X Q n) wire.Right.l2.ex Q) (wire.Right.l2.k.mk' x) := by kernel_rfl
theorem wire.Right.l2.lp : LpOk wire.Right.cx wire.Right.ct (usOf wire.Right.ct.ex wire.Right.us) (lpAt 2 Try.f58) := lp_gen 2 (by kernel_rfl) wire.Right.l2.k wire.Right.l2.ex wire.Right.l2.X (by kernel_rfl) (by intro Q x; kernel_rfl) wire.Right.l2.eq (fun Q n => lpV_lpQ (by kernel_rfl) (by kernel_rfl))
def wire.Right.ps : List PS := [.t (.sl 27 tElem)]
def wire.Right.G (x : (List Elem) × Unit) (J : List AV0 → Prop) : Prop := wire.Right x.1 (fun r0 => J [.tv .bool r0])
def wire.Right.F : List AV0 → (List AV0 → Prop) → Prop := byPs wire.Right.ps wire.Right.G
theorem wire.Right.eq (x : psD wire.Right.ps) (J : List AV0 → Prop) : wire.Right.G x J = fnA wire.Right.cx wire.Right.ct Try.f58 (psMk wire.Right.ps x) J := by kernel_rfl
theorem wire.Right.good : Go.Iv.Good Try.prog 58 wire.Right.F := good_gen (us := wire.Right.us) (cxOk base rows (l := [(32, chart.Rising.F)]) ⟨chart.Rising.good, trivial⟩) Try.func58 (by kernel_rfl) (by kernel_rfl) wire.Right.ps wire.Right.G wire.Right.eq (by kernel_rfl) (by kernel_rfl) (L := [lpAt 2 Try.f58, lpAt 5 Try.f58, lpAt 11 Try.f58]) (M := [jnAt 16 wire.Right.cx wire.Right.ct Try.f58, jnAt 34 wire.Right.cx wire.Right.ct Try.f58]) (by kernel_rfl) (by kernel_rfl) ⟨wire.Right.l2.lp, wire.Right.l5.lp, wire.Right.l11.lp, trivial⟩ ⟨wire.Right.j16.jn, wire.Right.j34.jn, trivial⟩
def rules.kinds.xr : Sk := ⟨[], 55, [(4, .var .bool)], []⟩
def rules.kinds.j37.k : Sk := ⟨[], 55, [(3, .ptr 3 0), (5, .ptr 5 0), (6, .ptr 6 0), (36, .var (.int .u8)), (43, .var .bool)], [(3, .box 27 tElem), (5, .box 27 tElem), (6, .box 27 tElem)]⟩
def rules.kinds.j25.k : Sk := ⟨[], 55, [(3, .ptr 3 0), (5, .ptr 5 0), (6, .ptr 6 0), (36, .var (.int .u8)), (37, .var .bool)], [(3, .box 27 tElem), (5, .box 27 tElem), (6, .box 27 tElem)]⟩
def rules.kinds.j37.X (U : AE → St → Prop) (x : Int × Bool × Elem × Elem × Elem × Unit) : Prop := rules.kinds.j37 (fun t4 => U .ret (rules.kinds.xr.mk' (t4, ()))) x.1 x.2.1 x.2.2.1 x.2.2.2.1 x.2.2.2.2.1
def rules.kinds.j25.X (U : AE → St → Prop) (x : Int × Bool × Elem × Elem × Elem × Unit) : Prop := rules.kinds.j25 (fun t4 => U .ret (rules.kinds.xr.mk' (t4, ()))) x.1 x.2.1 x.2.2.1 x.2.2.2.1 x.2.2.2.2.1
def rules.kinds.ct : Cuts := { lp := [], jn := [(25, fun st U => rules.kinds.j25.k.as st (rules.kinds.j25.X U)), (37, fun st U => rules.kinds.j37.k.as st (rules.kinds.j37.X U))], ex := [(.ret, rules.kinds.xr)], pl := [] }
def rules.kinds.cx : Cx := cxOf tyL byL borL rowL false [] []
def rules.kinds.us : List (Nat × ((AE → St → Prop) → AE → St → Prop)) := []
theorem rules.kinds.j37.eq (U : AE → St → Prop) (x : rules.kinds.j37.k.D) : rules.kinds.j37.X U x = awp rules.kinds.cx rules.kinds.ct (jnAt 37 rules.kinds.cx rules.kinds.ct Try.f59).code ((fnV rules.kinds.ct.ex) U) ((jnAt 37 rules.kinds.cx rules.kinds.ct Try.f59).cont ((fnV rules.kinds.ct.ex) U)) (rules.kinds.j37.k.mk' x) := by kernel_rfl
theorem rules.kinds.j37.jn : JnOk rules.kinds.cx rules.kinds.ct (usOf rules.kinds.ct.ex rules.kinds.us) (jnAt 37 rules.kinds.cx rules.kinds.ct Try.f59) := jn_gen none (by kernel_rfl) rules.kinds.j37.k rules.kinds.j37.X (fnV rules.kinds.ct.ex) (by kernel_rfl) (fun U h => h) rules.kinds.j37.eq
theorem rules.kinds.j25.eq (U : AE → St → Prop) (x : rules.kinds.j25.k.D) : rules.kinds.j25.X U x = awp rules.kinds.cx rules.kinds.ct (jnAt 25 rules.kinds.cx rules.kinds.ct Try.f59).code ((fnV rules.kinds.ct.ex) U) ((jnAt 25 rules.kinds.cx rules.kinds.ct Try.f59).cont ((fnV rules.kinds.ct.ex) U)) (rules.kinds.j25.k.mk' x) := by kernel_rfl
theorem rules.kinds.j25.jn : JnOk rules.kinds.cx rules.kinds.ct (usOf rules.kinds.ct.ex rules.kinds.us) (jnAt 25 rules.kinds.cx rules.kinds.ct Try.f59) := jn_gen none (by kernel_rfl) rules.kinds.j25.k rules.kinds.j25.X (fnV rules.kinds.ct.ex) (by kernel_rfl) (fun U h => h) rules.kinds.j25.eq
def rules.kinds.ps : List PS := [.t (.sl 27 tElem), .t tElem]
def rules.kinds.G (x : (List Elem) × Elem × Unit) (J : List AV0 → Prop) : Prop := rules.kinds x.1 x.2.1 (fun r0 => J [.tv .bool r0])
def rules.kinds.F : List AV0 → (List AV0 → Prop) → Prop := byPs rules.kinds.ps rules.kinds.G
theorem rules.kinds.eq (x : psD rules.kinds.ps) (J : List AV0 → Prop) : rules.kinds.G x J = fnA rules.kinds.cx rules.kinds.ct Try.f59 (psMk rules.kinds.ps x) J := by kernel_rfl
theorem rules.kinds.good : Go.Iv.Good Try.prog 59 rules.kinds.F := good_gen (us := rules.kinds.us) (cxOk base rows (l := []) trivial) Try.func59 (by kernel_rfl) (by kernel_rfl) rules.kinds.ps rules.kinds.G rules.kinds.eq (by kernel_rfl) (by kernel_rfl) (L := []) (M := [jnAt 25 rules.kinds.cx rules.kinds.ct Try.f59, jnAt 37 rules.kinds.cx rules.kinds.ct Try.f59]) (by kernel_rfl) (by kernel_rfl) trivial ⟨rules.kinds.j25.jn, rules.kinds.j37.jn, trivial⟩
def rules.named.ct : Cuts := { lp := [], jn := [], ex := [], pl := [] }
def rules.named.cx : Cx := cxOf tyL byL borL rowL false [] []
def rules.named.us : List (Nat × ((AE → St → Prop) → AE → St → Prop)) := []
def rules.named.ps : List PS := [.t tElem]
def rules.named.G (x : Elem × Unit) (J : List AV0 → Prop) : Prop := rules.named x.1 (fun r0 => J [.tv .bool r0])
def rules.named.F : List AV0 → (List AV0 → Prop) → Prop := byPs rules.named.ps rules.named.G
theorem rules.named.eq (x : psD rules.named.ps) (J : List AV0 → Prop) : rules.named.G x J = fnA rules.named.cx rules.named.ct Try.f74 (psMk rules.named.ps x) J := by kernel_rfl
theorem rules.named.good : Go.Iv.Good Try.prog 74 rules.named.F := good_gen (us := rules.named.us) (cxOk base rows (l := []) trivial) Try.func74 (by kernel_rfl) (by kernel_rfl) rules.named.ps rules.named.G rules.named.eq (by kernel_rfl) (by kernel_rfl) (L := []) (M := []) (by kernel_rfl) (by kernel_rfl) trivial trivial
def rules.names.xr : Sk := ⟨[], 43, [(4, .var .bool)], []⟩
def rules.names.l4xr : Sk := ⟨[], 43, [(4, .var .bool)], []⟩
def rules.names.l4xe0 : Sk := ⟨[], 43, [(3, .ptr 3 0)], [(3, .box 27 tElem)]⟩
def rules.names.j14.k : Sk := ⟨[], 43, [(3, .ptr 3 0), (10, .var (.sl 27 tElem)), (11, .var (.int .i64)), (12, .var (.int .i64)), (38, .var .bool)], [(3, .box 27 tElem)]⟩
def rules.names.l4.k : Sk := ⟨[], 43, [(3, .ptr 3 0), (10, .var (.sl 27 tElem)), (11, .var (.int .i64)), (12, .var (.int .i64))], [(3, .box 27 tElem)]⟩
def rules.names.j14.X (U : AE → St → Prop) (x : (List Elem) × Int × Int × Bool × Elem × Unit) : Prop := rules.names.j14 (fun t4 => U .ret (rules.names.l4xr.mk' (t4, ()))) (fun t10 t11 t12 oe3 => U .normal (rules.names.l4.k.mk' (t10, t11, t12, oe3, ()))) x.1 x.2.1 x.2.2.1 x.2.2.2.1 x.2.2.2.2.1
def rules.names.l4.ex : List (AE × Sk) := [(.ret, rules.names.l4xr), ((.exit 0), rules.names.l4xe0)]
def rules.names.l4.X (Q : AE → St → Prop) (n : Nat) (x : (List Elem) × Int × Int × Elem × Unit) : Prop := rules.names.l4 (fun t4 => Q .ret (rules.names.l4xr.mk' (t4, ()))) (fun oe3 => Q (.exit 0) (rules.names.l4xe0.mk' (oe3, ()))) n x.1 x.2.1 x.2.2.1 x.2.2.2.1
def rules.names.ct : Cuts := { lp := [(4, fun st Q => rules.names.l4.k.as st fun x => ∃ n, rules.names.l4.X Q n x)], jn := [(14, fun st U => rules.names.j14.k.as st (rules.names.j14.X U))], ex := [(.ret, rules.names.xr)], pl := [] }
def rules.names.cx : Cx := cxOf tyL byL borL rowL false [(74, rules.named.F)] []
def rules.names.us : List (Nat × ((AE → St → Prop) → AE → St → Prop)) := [(4, lpV rules.names.l4.k rules.names.l4.ex)]
theorem rules.names.j14.eq (U : AE → St → Prop) (x : rules.names.j14.k.D) : rules.names.j14.X U x = awp rules.names.cx rules.names.ct (jnAt 14 rules.names.cx rules.names.ct Try.f60).code ((lpV rules.names.l4.k rules.names.l4.ex) U) ((jnAt 14 rules.names.cx rules.names.ct Try.f60).cont ((lpV rules.names.l4.k rules.names.l4.ex) U)) (rules.names.j14.k.mk' x) := by kernel_rfl
theorem rules.names.j14.jn : JnOk rules.names.cx rules.names.ct (usOf rules.names.ct.ex rules.names.us) (jnAt 14 rules.names.cx rules.names.ct Try.f60) := jn_gen (some 4) (by kernel_rfl) rules.names.j14.k rules.names.j14.X (lpV rules.names.l4.k rules.names.l4.ex) (by kernel_rfl) (fun U h => h) rules.names.j14.eq
theorem rules.names.l4.eq (Q : AE → St → Prop) (n : Nat) (x : rules.names.l4.k.D) : rules.names.l4.X Q (n + 1) x = awp rules.names.cx rules.names.ct (lpAt 4 Try.f60) (lpQ rules.names.l4.k (rules.names.l4.X Q n) rules.names.l4.ex Q) (lpQ rules.names.l4.k (rules.names.l4.X Q n) rules.names.l4.ex Q) (rules.names.l4.k.mk' x) := by kernel_rfl
theorem rules.names.l4.lp : LpOk rules.names.cx rules.names.ct (usOf rules.names.ct.ex rules.names.us) (lpAt 4 Try.f60) := lp_gen 4 (by kernel_rfl) rules.names.l4.k rules.names.l4.ex rules.names.l4.X (by kernel_rfl) (by intro Q x; kernel_rfl) rules.names.l4.eq (fun Q n => lpV_lpQ (by kernel_rfl) (by kernel_rfl))
def rules.names.ps : List PS := [.t (.sl 27 tElem), .t tElem]
def rules.names.G (x : (List Elem) × Elem × Unit) (J : List AV0 → Prop) : Prop := rules.names x.1 x.2.1 (fun r0 => J [.tv .bool r0])
def rules.names.F : List AV0 → (List AV0 → Prop) → Prop := byPs rules.names.ps rules.names.G
theorem rules.names.eq (x : psD rules.names.ps) (J : List AV0 → Prop) : rules.names.G x J = fnA rules.names.cx rules.names.ct Try.f60 (psMk rules.names.ps x) J := by kernel_rfl
theorem rules.names.good : Go.Iv.Good Try.prog 60 rules.names.F := good_gen (us := rules.names.us) (cxOk base rows (l := [(74, rules.named.F)]) ⟨rules.named.good, trivial⟩) Try.func60 (by kernel_rfl) (by kernel_rfl) rules.names.ps rules.names.G rules.names.eq (by kernel_rfl) (by kernel_rfl) (L := [lpAt 4 Try.f60]) (M := [jnAt 14 rules.names.cx rules.names.ct Try.f60]) (by kernel_rfl) (by kernel_rfl) ⟨rules.names.l4.lp, trivial⟩ ⟨rules.names.j14.jn, trivial⟩
def cmp.isNaN_int.ct : Cuts := { lp := [], jn := [], ex := [], pl := [] }
def cmp.isNaN_int.cx : Cx := cxOf tyL byL borL rowL false [] []
def cmp.isNaN_int.us : List (Nat × ((AE → St → Prop) → AE → St → Prop)) := []
def cmp.isNaN_int.ps : List PS := [.t (.int .i64)]
def cmp.isNaN_int.G (x : Int × Unit) (J : List AV0 → Prop) : Prop := cmp.isNaN_int x.1 (fun r0 => J [.tv .bool r0])
def cmp.isNaN_int.F : List AV0 → (List AV0 → Prop) → Prop := byPs cmp.isNaN_int.ps cmp.isNaN_int.G
theorem cmp.isNaN_int.eq (x : psD cmp.isNaN_int.ps) (J : List AV0 → Prop) : cmp.isNaN_int.G x J = fnA cmp.isNaN_int.cx cmp.isNaN_int.ct Try.f76 (psMk cmp.isNaN_int.ps x) J := by kernel_rfl
theorem cmp.isNaN_int.good : Go.Iv.Good Try.prog 76 cmp.isNaN_int.F := good_gen (us := cmp.isNaN_int.us) (cxOk base rows (l := []) trivial) Try.func76 (by kernel_rfl) (by kernel_rfl) cmp.isNaN_int.ps cmp.isNaN_int.G cmp.isNaN_int.eq (by kernel_rfl) (by kernel_rfl) (L := []) (M := []) (by kernel_rfl) (by kernel_rfl) trivial trivial
def cmp.Compare_int.ct : Cuts := { lp := [], jn := [], ex := [], pl := [] }
def cmp.Compare_int.cx : Cx := cxOf tyL byL borL rowL false [(76, cmp.isNaN_int.F)] []
def cmp.Compare_int.us : List (Nat × ((AE → St → Prop) → AE → St → Prop)) := []
def cmp.Compare_int.ps : List PS := [.t (.int .i64), .t (.int .i64)]
def cmp.Compare_int.G (x : Int × Int × Unit) (J : List AV0 → Prop) : Prop := cmp.Compare_int x.1 x.2.1 (fun r0 => J [.tv (.int .i64) r0])
def cmp.Compare_int.F : List AV0 → (List AV0 → Prop) → Prop := byPs cmp.Compare_int.ps cmp.Compare_int.G
theorem cmp.Compare_int.eq (x : psD cmp.Compare_int.ps) (J : List AV0 → Prop) : cmp.Compare_int.G x J = fnA cmp.Compare_int.cx cmp.Compare_int.ct Try.f68 (psMk cmp.Compare_int.ps x) J := by kernel_rfl
theorem cmp.Compare_int.good : Go.Iv.Good Try.prog 68 cmp.Compare_int.F := good_gen (us := cmp.Compare_int.us) (cxOk base rows (l := [(76, cmp.isNaN_int.F)]) ⟨cmp.isNaN_int.good, trivial⟩) Try.func68 (by kernel_rfl) (by kernel_rfl) cmp.Compare_int.ps cmp.Compare_int.G cmp.Compare_int.eq (by kernel_rfl) (by kernel_rfl) (L := []) (M := []) (by kernel_rfl) (by kernel_rfl) trivial trivial
def chart.place_c1.ct : Cuts := { lp := [], jn := [], ex := [], pl := [] }
def chart.place_c1.cx : Cx := cxOf tyL byL borL rowL false [(68, cmp.Compare_int.F)] []
def chart.place_c1.us : List (Nat × ((AE → St → Prop) → AE → St → Prop)) := []
def chart.place_c1.ps : List PS := [.t tElem, .t (.int .i64)]
def chart.place_c1.G (x : Elem × Int × Unit) (J : List AV0 → Prop) : Prop := chart.place_c1 x.1 x.2.1 (fun r0 => J [.tv (.int .i64) r0])
def chart.place_c1.F : List AV0 → (List AV0 → Prop) → Prop := byPs chart.place_c1.ps chart.place_c1.G
theorem chart.place_c1.eq (x : psD chart.place_c1.ps) (J : List AV0 → Prop) : chart.place_c1.G x J = fnA chart.place_c1.cx chart.place_c1.ct Try.f67 (psMk chart.place_c1.ps x) J := by kernel_rfl
theorem chart.place_c1.good : Go.Iv.Good Try.prog 67 chart.place_c1.F := good_gen (us := chart.place_c1.us) (cxOk base rows (l := [(68, cmp.Compare_int.F)]) ⟨cmp.Compare_int.good, trivial⟩) Try.func67 (by kernel_rfl) (by kernel_rfl) chart.place_c1.ps chart.place_c1.G chart.place_c1.eq (by kernel_rfl) (by kernel_rfl) (L := []) (M := []) (by kernel_rfl) (by kernel_rfl) trivial trivial
def slices.BinarySearchFunc_Chart_Elem_int.l3xe0 : Sk := ⟨[], 49, [(0, .var (.sl 27 tElem)), (1, .var (.int .i64)), (2, .fn 67), (8, .var (.int .i64)), (9, .var (.int .i64))], []⟩
def slices.BinarySearchFunc_Chart_Elem_int.l3.k : Sk := ⟨[], 49, [(0, .var (.sl 27 tElem)), (1, .var (.int .i64)), (2, .fn 67), (8, .var (.int .i64)), (9, .var (.int .i64)), (10, .var (.int .i64))], []⟩
def slices.BinarySearchFunc_Chart_Elem_int.l3.ex : List (AE × Sk) := [((.exit 0), slices.BinarySearchFunc_Chart_Elem_int.l3xe0)]
def slices.BinarySearchFunc_Chart_Elem_int.l3.X (Q : AE → St → Prop) (n : Nat) (x : (List Elem) × Int × Int × Int × Int × Unit) : Prop := slices.BinarySearchFunc_Chart_Elem_int.l3 (fun x0 target1 n8 i9 => Q (.exit 0) (slices.BinarySearchFunc_Chart_Elem_int.l3xe0.mk' (x0, target1, n8, i9, ()))) n x.1 x.2.1 x.2.2.1 x.2.2.2.1 x.2.2.2.2.1
def slices.BinarySearchFunc_Chart_Elem_int.ct : Cuts := { lp := [(3, fun st Q => slices.BinarySearchFunc_Chart_Elem_int.l3.k.as st fun x => ∃ n, slices.BinarySearchFunc_Chart_Elem_int.l3.X Q n x)], jn := [], ex := [], pl := [] }
def slices.BinarySearchFunc_Chart_Elem_int.cx : Cx := cxOf tyL byL borL rowL false [(67, chart.place_c1.F)] []
def slices.BinarySearchFunc_Chart_Elem_int.us : List (Nat × ((AE → St → Prop) → AE → St → Prop)) := []
theorem slices.BinarySearchFunc_Chart_Elem_int.l3.eq (Q : AE → St → Prop) (n : Nat) (x : slices.BinarySearchFunc_Chart_Elem_int.l3.k.D) : slices.BinarySearchFunc_Chart_Elem_int.l3.X Q (n + 1) x = awp slices.BinarySearchFunc_Chart_Elem_int.cx slices.BinarySearchFunc_Chart_Elem_int.ct (lpAt 3 Try.f66) (lpQ slices.BinarySearchFunc_Chart_Elem_int.l3.k (slices.BinarySearchFunc_Chart_Elem_int.l3.X Q n) slices.BinarySearchFunc_Chart_Elem_int.l3.ex Q) (lpQ slices.BinarySearchFunc_Chart_Elem_int.l3.k (slices.BinarySearchFunc_Chart_Elem_int.l3.X Q n) slices.BinarySearchFunc_Chart_Elem_int.l3.ex Q) (slices.BinarySearchFunc_Chart_Elem_int.l3.k.mk' x) := by kernel_rfl
theorem slices.BinarySearchFunc_Chart_Elem_int.l3.lp : LpOk slices.BinarySearchFunc_Chart_Elem_int.cx slices.BinarySearchFunc_Chart_Elem_int.ct (usOf slices.BinarySearchFunc_Chart_Elem_int.ct.ex slices.BinarySearchFunc_Chart_Elem_int.us) (lpAt 3 Try.f66) := lp_gen 3 (by kernel_rfl) slices.BinarySearchFunc_Chart_Elem_int.l3.k slices.BinarySearchFunc_Chart_Elem_int.l3.ex slices.BinarySearchFunc_Chart_Elem_int.l3.X (by kernel_rfl) (by intro Q x; kernel_rfl) slices.BinarySearchFunc_Chart_Elem_int.l3.eq (fun _ _ => trivial)
def slices.BinarySearchFunc_Chart_Elem_int.ps : List PS := [.t (.sl 27 tElem), .t (.int .i64), .fn 67]
def slices.BinarySearchFunc_Chart_Elem_int.G (x : (List Elem) × Int × Unit) (J : List AV0 → Prop) : Prop := slices.BinarySearchFunc_Chart_Elem_int x.1 x.2.1 (fun r0 r1 => J [.tv (.int .i64) r0, .tv .bool r1])
def slices.BinarySearchFunc_Chart_Elem_int.F : List AV0 → (List AV0 → Prop) → Prop := byPs slices.BinarySearchFunc_Chart_Elem_int.ps slices.BinarySearchFunc_Chart_Elem_int.G
theorem slices.BinarySearchFunc_Chart_Elem_int.eq (x : psD slices.BinarySearchFunc_Chart_Elem_int.ps) (J : List AV0 → Prop) : slices.BinarySearchFunc_Chart_Elem_int.G x J = fnA slices.BinarySearchFunc_Chart_Elem_int.cx slices.BinarySearchFunc_Chart_Elem_int.ct Try.f66 (psMk slices.BinarySearchFunc_Chart_Elem_int.ps x) J := by kernel_rfl
theorem slices.BinarySearchFunc_Chart_Elem_int.good : Go.Iv.Good Try.prog 66 slices.BinarySearchFunc_Chart_Elem_int.F := good_gen (us := slices.BinarySearchFunc_Chart_Elem_int.us) (cxOk base rows (l := [(67, chart.place_c1.F)]) ⟨chart.place_c1.good, trivial⟩) Try.func66 (by kernel_rfl) (by kernel_rfl) slices.BinarySearchFunc_Chart_Elem_int.ps slices.BinarySearchFunc_Chart_Elem_int.G slices.BinarySearchFunc_Chart_Elem_int.eq (by kernel_rfl) (by kernel_rfl) (L := [lpAt 3 Try.f66]) (M := []) (by kernel_rfl) (by kernel_rfl) ⟨slices.BinarySearchFunc_Chart_Elem_int.l3.lp, trivial⟩ trivial
def chart.place.ct : Cuts := { lp := [], jn := [], ex := [], pl := [] }
def chart.place.cx : Cx := cxOf tyL byL borL rowL false [(66, slices.BinarySearchFunc_Chart_Elem_int.F)] []
def chart.place.us : List (Nat × ((AE → St → Prop) → AE → St → Prop)) := []
def chart.place.ps : List PS := [.t (.sl 27 tElem), .t (.int .i64)]
def chart.place.G (x : (List Elem) × Int × Unit) (J : List AV0 → Prop) : Prop := chart.place x.1 x.2.1 (fun r0 r1 => J [.tv (.int .i64) r0, .tv .bool r1])
def chart.place.F : List AV0 → (List AV0 → Prop) → Prop := byPs chart.place.ps chart.place.G
theorem chart.place.eq (x : psD chart.place.ps) (J : List AV0 → Prop) : chart.place.G x J = fnA chart.place.cx chart.place.ct Try.f47 (psMk chart.place.ps x) J := by kernel_rfl
theorem chart.place.good : Go.Iv.Good Try.prog 47 chart.place.F := good_gen (us := chart.place.us) (cxOk base rows (l := [(66, slices.BinarySearchFunc_Chart_Elem_int.F)]) ⟨slices.BinarySearchFunc_Chart_Elem_int.good, trivial⟩) Try.func47 (by kernel_rfl) (by kernel_rfl) chart.place.ps chart.place.G chart.place.eq (by kernel_rfl) (by kernel_rfl) (L := []) (M := []) (by kernel_rfl) (by kernel_rfl) trivial trivial
def chart.Find.ct : Cuts := { lp := [], jn := [], ex := [], pl := [] }
def chart.Find.cx : Cx := cxOf tyL byL borL rowL false [(47, chart.place.F)] []
def chart.Find.us : List (Nat × ((AE → St → Prop) → AE → St → Prop)) := []
def chart.Find.ps : List PS := [.t (.sl 27 tElem), .t (.int .i64)]
def chart.Find.G (x : (List Elem) × Int × Unit) (J : List AV0 → Prop) : Prop := chart.Find x.1 x.2.1 (fun r0 r1 => J [.tv tElem r0, .tv .bool r1])
def chart.Find.F : List AV0 → (List AV0 → Prop) → Prop := byPs chart.Find.ps chart.Find.G
theorem chart.Find.eq (x : psD chart.Find.ps) (J : List AV0 → Prop) : chart.Find.G x J = fnA chart.Find.cx chart.Find.ct Try.f33 (psMk chart.Find.ps x) J := by kernel_rfl
theorem chart.Find.good : Go.Iv.Good Try.prog 33 chart.Find.F := good_gen (us := chart.Find.us) (cxOk base rows (l := [(47, chart.place.F)]) ⟨chart.place.good, trivial⟩) Try.func33 (by kernel_rfl) (by kernel_rfl) chart.Find.ps chart.Find.G chart.Find.eq (by kernel_rfl) (by kernel_rfl) (L := []) (M := []) (by kernel_rfl) (by kernel_rfl) trivial trivial
def rules.parents.ct : Cuts := { lp := [], jn := [], ex := [], pl := [] }
def rules.parents.cx : Cx := cxOf tyL byL borL rowL false [(74, rules.named.F), (33, chart.Find.F)] []
def rules.parents.us : List (Nat × ((AE → St → Prop) → AE → St → Prop)) := []
def rules.parents.ps : List PS := [.t (.sl 27 tElem), .t tElem]
def rules.parents.G (x : (List Elem) × Elem × Unit) (J : List AV0 → Prop) : Prop := rules.parents x.1 x.2.1 (fun r0 => J [.tv .bool r0])
def rules.parents.F : List AV0 → (List AV0 → Prop) → Prop := byPs rules.parents.ps rules.parents.G
theorem rules.parents.eq (x : psD rules.parents.ps) (J : List AV0 → Prop) : rules.parents.G x J = fnA rules.parents.cx rules.parents.ct Try.f61 (psMk rules.parents.ps x) J := by kernel_rfl
theorem rules.parents.good : Go.Iv.Good Try.prog 61 rules.parents.F := good_gen (us := rules.parents.us) (cxOk base rows (l := [(74, rules.named.F), (33, chart.Find.F)]) ⟨rules.named.good, chart.Find.good, trivial⟩) Try.func61 (by kernel_rfl) (by kernel_rfl) rules.parents.ps rules.parents.G rules.parents.eq (by kernel_rfl) (by kernel_rfl) (L := []) (M := []) (by kernel_rfl) (by kernel_rfl) trivial trivial
def rules.rings.l3xr : Sk := ⟨[], 29, [(4, .var .bool)], []⟩
def rules.rings.l3xe0 : Sk := ⟨[], 29, [], []⟩
def rules.rings.l3.k : Sk := ⟨[], 29, [(0, .var (.sl 27 tElem)), (3, .ptr 3 0), (5, .var (.int .i64)), (11, .var (.int .i64)), (12, .var (.int .i64))], [(3, .box 27 tElem)]⟩
def rules.rings.l3.ex : List (AE × Sk) := [(.ret, rules.rings.l3xr), ((.exit 0), rules.rings.l3xe0)]
def rules.rings.l3.X (Q : AE → St → Prop) (n : Nat) (x : (List Elem) × Int × Int × Int × Elem × Unit) : Prop := rules.rings.l3 (fun t4 => Q .ret (rules.rings.l3xr.mk' (t4, ()))) (Q (.exit 0) (rules.rings.l3xe0.mk' ())) n x.1 x.2.1 x.2.2.1 x.2.2.2.1 x.2.2.2.2.1
def rules.rings.ct : Cuts := { lp := [(3, fun st Q => rules.rings.l3.k.as st fun x => ∃ n, rules.rings.l3.X Q n x)], jn := [], ex := [], pl := [] }
def rules.rings.cx : Cx := cxOf tyL byL borL rowL false [(33, chart.Find.F)] []
def rules.rings.us : List (Nat × ((AE → St → Prop) → AE → St → Prop)) := []
theorem rules.rings.l3.eq (Q : AE → St → Prop) (n : Nat) (x : rules.rings.l3.k.D) : rules.rings.l3.X Q (n + 1) x = awp rules.rings.cx rules.rings.ct (lpAt 3 Try.f62) (lpQ rules.rings.l3.k (rules.rings.l3.X Q n) rules.rings.l3.ex Q) (lpQ rules.rings.l3.k (rules.rings.l3.X Q n) rules.rings.l3.ex Q) (rules.rings.l3.k.mk' x) := by kernel_rfl
theorem rules.rings.l3.lp : LpOk rules.rings.cx rules.rings.ct (usOf rules.rings.ct.ex rules.rings.us) (lpAt 3 Try.f62) := lp_gen 3 (by kernel_rfl) rules.rings.l3.k rules.rings.l3.ex rules.rings.l3.X (by kernel_rfl) (by intro Q x; kernel_rfl) rules.rings.l3.eq (fun _ _ => trivial)
def rules.rings.ps : List PS := [.t (.sl 27 tElem), .t tElem]
def rules.rings.G (x : (List Elem) × Elem × Unit) (J : List AV0 → Prop) : Prop := rules.rings x.1 x.2.1 (fun r0 => J [.tv .bool r0])
def rules.rings.F : List AV0 → (List AV0 → Prop) → Prop := byPs rules.rings.ps rules.rings.G
theorem rules.rings.eq (x : psD rules.rings.ps) (J : List AV0 → Prop) : rules.rings.G x J = fnA rules.rings.cx rules.rings.ct Try.f62 (psMk rules.rings.ps x) J := by kernel_rfl
theorem rules.rings.good : Go.Iv.Good Try.prog 62 rules.rings.F := good_gen (us := rules.rings.us) (cxOk base rows (l := [(33, chart.Find.F)]) ⟨chart.Find.good, trivial⟩) Try.func62 (by kernel_rfl) (by kernel_rfl) rules.rings.ps rules.rings.G rules.rings.eq (by kernel_rfl) (by kernel_rfl) (L := [lpAt 3 Try.f62]) (M := []) (by kernel_rfl) (by kernel_rfl) ⟨rules.rings.l3.lp, trivial⟩ trivial
def rules.ends.ct : Cuts := { lp := [], jn := [], ex := [], pl := [] }
def rules.ends.cx : Cx := cxOf tyL byL borL rowL false [(33, chart.Find.F)] []
def rules.ends.us : List (Nat × ((AE → St → Prop) → AE → St → Prop)) := []
def rules.ends.ps : List PS := [.t (.sl 27 tElem), .t tElem]
def rules.ends.G (x : (List Elem) × Elem × Unit) (J : List AV0 → Prop) : Prop := rules.ends x.1 x.2.1 (fun r0 => J [.tv .bool r0])
def rules.ends.F : List AV0 → (List AV0 → Prop) → Prop := byPs rules.ends.ps rules.ends.G
theorem rules.ends.eq (x : psD rules.ends.ps) (J : List AV0 → Prop) : rules.ends.G x J = fnA rules.ends.cx rules.ends.ct Try.f63 (psMk rules.ends.ps x) J := by kernel_rfl
theorem rules.ends.good : Go.Iv.Good Try.prog 63 rules.ends.F := good_gen (us := rules.ends.us) (cxOk base rows (l := [(33, chart.Find.F)]) ⟨chart.Find.good, trivial⟩) Try.func63 (by kernel_rfl) (by kernel_rfl) rules.ends.ps rules.ends.G rules.ends.eq (by kernel_rfl) (by kernel_rfl) (L := []) (M := []) (by kernel_rfl) (by kernel_rfl) trivial trivial
def rules.orders.xr : Sk := ⟨[], 41, [(4, .var .bool)], []⟩
def rules.orders.l4xr : Sk := ⟨[], 41, [(4, .var .bool)], []⟩
def rules.orders.l4xe0 : Sk := ⟨[], 41, [], []⟩
def rules.orders.j14.k : Sk := ⟨[], 41, [(3, .ptr 3 0), (10, .var (.sl 27 tElem)), (11, .var (.int .i64)), (12, .var (.int .i64)), (39, .var .bool)], [(3, .box 27 tElem)]⟩
def rules.orders.l4.k : Sk := ⟨[], 41, [(3, .ptr 3 0), (10, .var (.sl 27 tElem)), (11, .var (.int .i64)), (12, .var (.int .i64))], [(3, .box 27 tElem)]⟩
def rules.orders.j14.X (U : AE → St → Prop) (x : (List Elem) × Int × Int × Bool × Elem × Unit) : Prop := rules.orders.j14 (fun t4 => U .ret (rules.orders.l4xr.mk' (t4, ()))) (fun t10 t11 t12 oe3 => U .normal (rules.orders.l4.k.mk' (t10, t11, t12, oe3, ()))) x.1 x.2.1 x.2.2.1 x.2.2.2.1 x.2.2.2.2.1
def rules.orders.l4.ex : List (AE × Sk) := [(.ret, rules.orders.l4xr), ((.exit 0), rules.orders.l4xe0)]
def rules.orders.l4.X (Q : AE → St → Prop) (n : Nat) (x : (List Elem) × Int × Int × Elem × Unit) : Prop := rules.orders.l4 (fun t4 => Q .ret (rules.orders.l4xr.mk' (t4, ()))) (Q (.exit 0) (rules.orders.l4xe0.mk' ())) n x.1 x.2.1 x.2.2.1 x.2.2.2.1
def rules.orders.ct : Cuts := { lp := [(4, fun st Q => rules.orders.l4.k.as st fun x => ∃ n, rules.orders.l4.X Q n x)], jn := [(14, fun st U => rules.orders.j14.k.as st (rules.orders.j14.X U))], ex := [(.ret, rules.orders.xr)], pl := [] }
def rules.orders.cx : Cx := cxOf tyL byL borL rowL false [] []
def rules.orders.us : List (Nat × ((AE → St → Prop) → AE → St → Prop)) := [(4, lpV rules.orders.l4.k rules.orders.l4.ex)]
theorem rules.orders.j14.eq (U : AE → St → Prop) (x : rules.orders.j14.k.D) : rules.orders.j14.X U x = awp rules.orders.cx rules.orders.ct (jnAt 14 rules.orders.cx rules.orders.ct Try.f64).code ((lpV rules.orders.l4.k rules.orders.l4.ex) U) ((jnAt 14 rules.orders.cx rules.orders.ct Try.f64).cont ((lpV rules.orders.l4.k rules.orders.l4.ex) U)) (rules.orders.j14.k.mk' x) := by kernel_rfl
theorem rules.orders.j14.jn : JnOk rules.orders.cx rules.orders.ct (usOf rules.orders.ct.ex rules.orders.us) (jnAt 14 rules.orders.cx rules.orders.ct Try.f64) := jn_gen (some 4) (by kernel_rfl) rules.orders.j14.k rules.orders.j14.X (lpV rules.orders.l4.k rules.orders.l4.ex) (by kernel_rfl) (fun U h => h) rules.orders.j14.eq
theorem rules.orders.l4.eq (Q : AE → St → Prop) (n : Nat) (x : rules.orders.l4.k.D) : rules.orders.l4.X Q (n + 1) x = awp rules.orders.cx rules.orders.ct (lpAt 4 Try.f64) (lpQ rules.orders.l4.k (rules.orders.l4.X Q n) rules.orders.l4.ex Q) (lpQ rules.orders.l4.k (rules.orders.l4.X Q n) rules.orders.l4.ex Q) (rules.orders.l4.k.mk' x) := by kernel_rfl
theorem rules.orders.l4.lp : LpOk rules.orders.cx rules.orders.ct (usOf rules.orders.ct.ex rules.orders.us) (lpAt 4 Try.f64) := lp_gen 4 (by kernel_rfl) rules.orders.l4.k rules.orders.l4.ex rules.orders.l4.X (by kernel_rfl) (by intro Q x; kernel_rfl) rules.orders.l4.eq (fun Q n => lpV_lpQ (by kernel_rfl) (by kernel_rfl))
def rules.orders.ps : List PS := [.t (.sl 27 tElem), .t tElem]
def rules.orders.G (x : (List Elem) × Elem × Unit) (J : List AV0 → Prop) : Prop := rules.orders x.1 x.2.1 (fun r0 => J [.tv .bool r0])
def rules.orders.F : List AV0 → (List AV0 → Prop) → Prop := byPs rules.orders.ps rules.orders.G
theorem rules.orders.eq (x : psD rules.orders.ps) (J : List AV0 → Prop) : rules.orders.G x J = fnA rules.orders.cx rules.orders.ct Try.f64 (psMk rules.orders.ps x) J := by kernel_rfl
theorem rules.orders.good : Go.Iv.Good Try.prog 64 rules.orders.F := good_gen (us := rules.orders.us) (cxOk base rows (l := []) trivial) Try.func64 (by kernel_rfl) (by kernel_rfl) rules.orders.ps rules.orders.G rules.orders.eq (by kernel_rfl) (by kernel_rfl) (L := [lpAt 4 Try.f64]) (M := [jnAt 14 rules.orders.cx rules.orders.ct Try.f64]) (by kernel_rfl) (by kernel_rfl) ⟨rules.orders.l4.lp, trivial⟩ ⟨rules.orders.j14.jn, trivial⟩
def chart.Children.l3xe0 : Sk := ⟨[], 25, [(5, .row 5)], [(5, .row 3 (.int .i64))]⟩
def chart.Children.xr : Sk := ⟨[], 25, [(4, .row 4)], [(4, .row 3 (.int .i64))]⟩
def chart.Children.j59.k : Sk := ⟨[], 25, [(1, .var (.int .i64)), (5, .row 5), (8, .var (.sl 27 tElem)), (9, .var (.int .i64)), (10, .var (.int .i64))], [(5, .row 3 (.int .i64))]⟩
def chart.Children.l3.k : Sk := ⟨[], 25, [(1, .var (.int .i64)), (5, .row 5), (8, .var (.sl 27 tElem)), (9, .var (.int .i64)), (10, .var (.int .i64))], [(5, .row 3 (.int .i64))]⟩
def chart.Children.j59.X (U : AE → St → Prop) (x : Int × (List Elem) × Int × Int × (List Int) × Unit) : Prop := chart.Children.j59 (fun id1 t8 t9 t10 ol5 => U .normal (chart.Children.l3.k.mk' (id1, t8, t9, t10, ol5, ()))) x.1 x.2.1 x.2.2.1 x.2.2.2.1 x.2.2.2.2.1
def chart.Children.l3.ex : List (AE × Sk) := [((.exit 0), chart.Children.l3xe0)]
def chart.Children.l3.X (Q : AE → St → Prop) (n : Nat) (x : Int × (List Elem) × Int × Int × (List Int) × Unit) : Prop := chart.Children.l3 (fun ol5 => Q (.exit 0) (chart.Children.l3xe0.mk' (ol5, ()))) n x.1 x.2.1 x.2.2.1 x.2.2.2.1 x.2.2.2.2.1
def chart.Children.ct : Cuts := { lp := [(3, fun st Q => chart.Children.l3.k.as st fun x => ∃ n, chart.Children.l3.X Q n x)], jn := [(59, fun st U => chart.Children.j59.k.as st (chart.Children.j59.X U))], ex := [(.ret, chart.Children.xr)], pl := [] }
def chart.Children.cx : Cx := cxOf tyL byL borL rowL true [] [5, 4]
def chart.Children.us : List (Nat × ((AE → St → Prop) → AE → St → Prop)) := [(3, lpV chart.Children.l3.k chart.Children.l3.ex)]
theorem chart.Children.j59.eq (U : AE → St → Prop) (x : chart.Children.j59.k.D) : chart.Children.j59.X U x = awp chart.Children.cx chart.Children.ct (jnAt 59 chart.Children.cx chart.Children.ct Try.f75).code ((lpV chart.Children.l3.k chart.Children.l3.ex) U) ((jnAt 59 chart.Children.cx chart.Children.ct Try.f75).cont ((lpV chart.Children.l3.k chart.Children.l3.ex) U)) (chart.Children.j59.k.mk' x) := by kernel_rfl
theorem chart.Children.j59.jn : JnOk chart.Children.cx chart.Children.ct (usOf chart.Children.ct.ex chart.Children.us) (jnAt 59 chart.Children.cx chart.Children.ct Try.f75) := jn_gen (some 3) (by kernel_rfl) chart.Children.j59.k chart.Children.j59.X (lpV chart.Children.l3.k chart.Children.l3.ex) (by kernel_rfl) (fun U h => h) chart.Children.j59.eq
theorem chart.Children.l3.eq (Q : AE → St → Prop) (n : Nat) (x : chart.Children.l3.k.D) : chart.Children.l3.X Q (n + 1) x = awp chart.Children.cx chart.Children.ct (lpAt 3 Try.f75) (lpQ chart.Children.l3.k (chart.Children.l3.X Q n) chart.Children.l3.ex Q) (lpQ chart.Children.l3.k (chart.Children.l3.X Q n) chart.Children.l3.ex Q) (chart.Children.l3.k.mk' x) := by kernel_rfl
theorem chart.Children.l3.lp : LpOk chart.Children.cx chart.Children.ct (usOf chart.Children.ct.ex chart.Children.us) (lpAt 3 Try.f75) := lp_gen 3 (by kernel_rfl) chart.Children.l3.k chart.Children.l3.ex chart.Children.l3.X (by kernel_rfl) (by intro Q x; kernel_rfl) chart.Children.l3.eq (fun Q n => lpV_lpQ (by kernel_rfl) (by kernel_rfl))
def chart.Children.ps : List PS := [.t (.sl 27 tElem), .t (.int .i64)]
def chart.Children.G (x : (List Elem) × Int × Unit) (J : List AV0 → Prop) : Prop := chart.Children x.1 x.2.1 (fun r0 => J [.own 3 (.int .i64) r0])
def chart.Children.F : List AV0 → (List AV0 → Prop) → Prop := byPs chart.Children.ps chart.Children.G
theorem chart.Children.eq (x : psD chart.Children.ps) (J : List AV0 → Prop) : chart.Children.G x J = fnA chart.Children.cx chart.Children.ct Try.f75 (psMk chart.Children.ps x) J := by kernel_rfl
theorem chart.Children.good : Go.Iv.Good Try.prog 75 chart.Children.F := good_gen (us := chart.Children.us) (cxOk base rows (l := []) trivial) Try.func75 (by kernel_rfl) (by kernel_rfl) chart.Children.ps chart.Children.G chart.Children.eq (by kernel_rfl) (by kernel_rfl) (L := [lpAt 3 Try.f75]) (M := [jnAt 59 chart.Children.cx chart.Children.ct Try.f75]) (by kernel_rfl) (by kernel_rfl) ⟨chart.Children.l3.lp, trivial⟩ ⟨chart.Children.j59.jn, trivial⟩
def rules.mixed.l3xe0 : Sk := ⟨[], 43, [(5, .var .bool), (6, .var .bool)], []⟩
def rules.mixed.l3.k : Sk := ⟨[], 43, [(0, .var (.sl 27 tElem)), (5, .var .bool), (6, .var .bool), (14, .row 14), (15, .var (.int .i64)), (16, .var (.int .i64))], [(14, .row 3 (.int .i64))]⟩
def rules.mixed.l3.ex : List (AE × Sk) := [((.exit 0), rules.mixed.l3xe0)]
def rules.mixed.l3.X (Q : AE → St → Prop) (n : Nat) (x : (List Elem) × Bool × Bool × Int × Int × (List Int) × Unit) : Prop := rules.mixed.l3 (fun regions5 others6 => Q (.exit 0) (rules.mixed.l3xe0.mk' (regions5, others6, ()))) n x.1 x.2.1 x.2.2.1 x.2.2.2.1 x.2.2.2.2.1 x.2.2.2.2.2.1
def rules.mixed.ct : Cuts := { lp := [(3, fun st Q => rules.mixed.l3.k.as st fun x => ∃ n, rules.mixed.l3.X Q n x)], jn := [], ex := [], pl := [(6, [.any [] [(0, []), (1, []), (2, []), (3, []), (4, []), (5, []), (6, []), (7, []), (8, []), (9, []), (10, []), (11, []), (12, []), (13, [])]])] }
def rules.mixed.cx : Cx := cxOf tyL byL borL rowL false [(33, chart.Find.F), (75, chart.Children.F)] []
def rules.mixed.us : List (Nat × ((AE → St → Prop) → AE → St → Prop)) := []
theorem rules.mixed.l3.eq (Q : AE → St → Prop) (n : Nat) (x : rules.mixed.l3.k.D) : rules.mixed.l3.X Q (n + 1) x = awp rules.mixed.cx rules.mixed.ct (lpAt 3 Try.f65) (lpQ rules.mixed.l3.k (rules.mixed.l3.X Q n) rules.mixed.l3.ex Q) (lpQ rules.mixed.l3.k (rules.mixed.l3.X Q n) rules.mixed.l3.ex Q) (rules.mixed.l3.k.mk' x) := by kernel_rfl
theorem rules.mixed.l3.lp : LpOk rules.mixed.cx rules.mixed.ct (usOf rules.mixed.ct.ex rules.mixed.us) (lpAt 3 Try.f65) := lp_gen 3 (by kernel_rfl) rules.mixed.l3.k rules.mixed.l3.ex rules.mixed.l3.X (by kernel_rfl) (by intro Q x; kernel_rfl) rules.mixed.l3.eq (fun _ _ => trivial)
def rules.mixed.ps : List PS := [.t (.sl 27 tElem), .t tElem]
def rules.mixed.G (x : (List Elem) × Elem × Unit) (J : List AV0 → Prop) : Prop := rules.mixed x.1 x.2.1 (fun r0 => J [.tv .bool r0])
def rules.mixed.F : List AV0 → (List AV0 → Prop) → Prop := byPs rules.mixed.ps rules.mixed.G
theorem rules.mixed.eq (x : psD rules.mixed.ps) (J : List AV0 → Prop) : rules.mixed.G x J = fnA rules.mixed.cx rules.mixed.ct Try.f65 (psMk rules.mixed.ps x) J := by kernel_rfl
theorem rules.mixed.good : Go.Iv.Good Try.prog 65 rules.mixed.F := good_gen (us := rules.mixed.us) (cxOk base rows (l := [(33, chart.Find.F), (75, chart.Children.F)]) ⟨chart.Find.good, chart.Children.good, trivial⟩) Try.func65 (by kernel_rfl) (by kernel_rfl) rules.mixed.ps rules.mixed.G rules.mixed.eq (by kernel_rfl) (by kernel_rfl) (L := [lpAt 3 Try.f65]) (M := []) (by kernel_rfl) (by kernel_rfl) ⟨rules.mixed.l3.lp, trivial⟩ trivial
end Go.Iw
