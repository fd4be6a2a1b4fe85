/- Operations proved against the model, seventh part: what the builtins do. -/
import Derived.Test.YtcpeakceigidpaaDoorKvB
import Derived.Lib.AppendZerosOnto
import Derived.Laws.IdiomCopy
set_option linter.all false
namespace Go.Iv
open Go.RowKit
variable [GL]
section
variable {P : Program} {cx : Cx} {w0 : Bas} {w : World} {ok0 ok : Nat → Prop} {m : Nat → Value} {st : St} {a : Act} {o : Oper} {K : St → Prop} {Q : Exit → Act → World → Prop}
theorem blk_own {v : Value} (h : ∃ A n c, v = .slice A n c) : v.ownBlock = blk v := by
 obtain ⟨A, n, c, rfl⟩ := h
 cases A <;> rfl
theorem append_run {t e : TypeId} {i : TypeInfo} {z : Value} (ty : TypeId) (ht : P.underlying t = some (.slice e)) (hi : P.info? e = some i) (hz : i.zero = some z) (hzs : z.cells.size = i.size) (hsz : 0 < i.size)
 {v : Value} {n : Nat} {xs : List Value} (hown : w.ownsRow 0 e i.size v n xs) {A : Option Addr} {k c : Nat} {news : List Value} (hl : news.length = k * i.size) (hA : (A = none ∧ k = 0) ∨ ∃ ad, A = some ad ∧ ∀ (j : Nat) (u : Value), news[j]? = some u → w.cell? (ad.add j) = some u) (h1 : ∀ u ∈ news, u.oneCell' = true)
 (h63 : n + k ≤ maxLen) (hbytes : (n + k) * i.bytes ≤ 140737488355328) :
 ∃ v' w', (Builtin.append_ #[t, t] ty #[v, .slice A k c]).run P w = .ok v' w' ∧ w'.ownsRow 0 e i.size v' (n + k) (xs ++ news) ∧ w.grownBy w' v.ownBlock ∧ (∀ b, blk v' = some b → blk v = some b ∨ w.heap.size ≤ b) := by
 rcases hA with ⟨rfl, rfl⟩ | ⟨ad, rfl, hnews⟩
 · have : news = [] := List.eq_nil_of_length_eq_zero (by simpa using hl)
   subst this
   refine ⟨v, w, ?_, by simpa using hown, ⟨rfl, rfl, rfl, Nat.le_refl _, fun _ _ _ => rfl⟩, fun b h => .inl h⟩
   rcases hown.2 with ⟨rfl, rfl⟩ | ⟨g, cap, cur, rfl, _, _, hnc, _⟩
   · simp [Builtin.append_, run_underlying ht, sizeOf, typeInfo, hi, Builtin.lenOf, Builtin.firstCells]
   · simp [Builtin.append_, run_underlying ht, sizeOf, typeInfo, hi, Builtin.lenOf, Builtin.firstCells, hnc, storeCells]
 · have hsmall : n + k ≤ 9223372036854775807 := by simp only [maxLen] at h63; omega
   obtain ⟨v', w', hr, h2, h3, h4⟩ := run_append_own (P := P) w 0 t ty e i z i.size i.bytes ht hi hz rfl rfl hzs hsz v n xs hown ad k c news hl hnews h1 h63 hbytes (Nat.zero_le _)
   refine ⟨v', w', hr, h2, h3, ?_⟩
   rcases hown.2 with ⟨rfl, rfl⟩ | ⟨g, cap, cur, rfl, hbg, hg, hnc, hcm, hcs, htake⟩
   · by_cases hm : k = 0
     · have := h4.2 ⟨rfl, hm⟩
       subst this
       intro b h; simp [blk] at h
     · have hr' := run_append_nil (P := P) w t ty e i z ht hi hz ad k c news hl hnews (by omega) (by omega) (by have hb := hbytes; simp only [Nat.zero_add] at hb; omega)
       rw [hr] at hr'
       cases hr'
       intro b h; simp [blk] at h; right; omega
   · by_cases hroom : n + k ≤ cap
     · have hfit : n * i.size + news.length ≤ cur.size := by rw [hl, hcs, ← Nat.add_mul]; exact Nat.mul_le_mul_right _ hroom
       have hr' := run_append_room (P := P) w t ty e i ht hi g n cap cur hg ad k c news hl hnews h1 hroom hfit
       rw [hr] at hr'
       cases hr'
       intro b h; left; exact h
     · have holds : ∀ (j : Nat) (u : Value), xs[j]? = some u → w.cell? ((⟨g, 0, none⟩ : Addr).add j) = some u := World.ownsRow.cells (g := g) hown rfl
       have hr' := run_append_grow (P := P) w t ty e i z ht hi hz ⟨g, 0, none⟩ n cap xs hown.1 holds ad k c news hl hnews (by omega) (by omega) (growslice_fits (by omega) hbytes)
       rw [hr] at hr'
       cases hr'
       intro b h; simp [blk] at h; right; omega
def AppRun (P : Program) (w : World) (TT T' e : TypeId) (i : TypeInfo) (xv : Value) (k : Nat) (news : List Value) : Prop := ∀ (ty : TypeId) {v : Value} {n : Nat} {xs : List Value}, w.ownsRow 0 e i.size v n xs → n + k ≤ maxLen → (n + k) * i.bytes ≤ 140737488355328 →
    ∃ v' w', (Builtin.append_ #[TT, T'] ty #[v, xv]).run P w = .ok v' w' ∧ w'.ownsRow 0 e i.size v' (n + k) (xs ++ news) ∧ w.grownBy w' v.ownBlock ∧ (∀ b, blk v' = some b → blk v = some b ∨ w.heap.size ≤ b)
theorem grown_row {e : TypeId} {i : TypeInfo} {z : Value} (hzs : z.cells.size = i.size) {n k : Nat} {xs news : List Value} (hx : xs.length = n * i.size) (hl : news.length = k * i.size) (h63 : n + k ≤ maxLen) (old : Nat) (row : Option Nat) (rest : Array Value) (hrest : rest.size = (grownCap w (n + k) old e - (n + k)) * i.size) :
 (w.drew.alloc (.cells ((xs ++ news).toArray ++ rest) e)).ownsRow 0 e i.size (.slice (some ⟨w.heap.size, 0, none⟩) (n + k) (grownCap w (n + k) old e)) (n + k) (xs ++ news) ∧ w.grownBy (w.drew.alloc (.cells ((xs ++ news).toArray ++ rest) e)) row := by
 have hge := grownCap_ge w (n + k) old e
 have hcm : grownCap w (n + k) old e ≤ maxLen := grownCap_le_maxLen w (n + k) old e h63
 have hlen : (xs ++ news).length = (n + k) * i.size := by rw [List.length_append, hx, hl, Nat.add_mul]
 refine ⟨⟨hlen, .inr ⟨w.heap.size, _, _, rfl, Nat.zero_le _, heap_alloc_new w.drew _, hge, hcm, ?_, ?_⟩⟩, ⟨rfl, rfl, rfl, by simp, fun k hk _ => heap_alloc_old w.drew _ hk⟩⟩
 · rw [Array.size_append, hrest, List.size_toArray, hlen, ← Nat.add_mul]
   congr 1
   omega
 · rw [Array.toList_append, ← hlen]
   exact List.take_left
theorem appRun_slice {t e : TypeId} {i : TypeInfo} {z : Value} (ht : P.underlying t = some (.slice e)) (hi : P.info? e = some i) (hz : i.zero = some z) (hzs : z.cells.size = i.size) (hsz : 0 < i.size)
 {A : Option Addr} {k c : Nat} {news : List Value} (hl : news.length = k * i.size) (hA : (A = none ∧ k = 0) ∨ ∃ ad, A = some ad ∧ ∀ (j : Nat) (u : Value), news[j]? = some u → w.cell? (ad.add j) = some u) (h1 : ∀ u ∈ news, u.oneCell' = true) : AppRun P w t t e i (.slice A k c) k news :=
 fun ty _ _ _ hown h63 hb => append_run ty ht hi hz hzs hsz hown hl hA h1 h63 hb
theorem appRun_arms {t T' e : TypeId} {i : TypeInfo} {z : Value} (ht : P.underlying t = some (.slice e)) (hi : P.info? e = some i) (hz : i.zero = some z) (hzs : z.cells.size = i.size) (hsz : 0 < i.size) {xv : Value} {k : Nat} {news : List Value} (hl : news.length = k * i.size)
 (h0 : k = 0 → ∀ (ty : TypeId), (Builtin.append_ #[t, T'] ty #[.slice none 0 0, xv]).run P w = .ok (.slice none 0 0) w)
 (hroom : ∀ (ty : TypeId) (g n cap : Nat) (cur : Array Value), w.heap[g]? = some (.cells cur e (0, 0)) → n + k ≤ cap → n * i.size + news.length ≤ cur.size → (Builtin.append_ #[t, T'] ty #[.slice (some ⟨g, 0, none⟩) n cap, xv]).run P w = .ok (.slice (some ⟨g, 0, none⟩) (n + k) cap) (w.setRow g (cur.toList.take (n * i.size) ++ news ++ cur.toList.drop (n * i.size + news.length)).toArray))
 (hgrow : ∀ (ty : TypeId) (base : Option Addr) (n cap : Nat) (olds : List Value), (Builtin.firstCells i.size n (.slice base n cap)).run P w.drew = .ok olds.toArray w.drew → 0 < k → cap < n + k → n + k ≤ 9223372036854775807 → (n + k) * i.bytes ≤ 140737488355328 → Builtin.nextslicecap (n + k) cap * i.bytes ≤ 281474976710656 → ∃ rest : Array Value, rest.size = (grownCap w (n + k) cap e - (n + k)) * i.size ∧ (Builtin.append_ #[t, T'] ty #[.slice base n cap, xv]).run P w = .ok (.slice (some ⟨w.heap.size, 0, none⟩) (n + k) (grownCap w (n + k) cap e)) (w.drew.alloc (.cells ((olds ++ news).toArray ++ rest) e))) :
 AppRun P w t T' e i xv k news := by
 intro ty v n xs hown h63 hbytes
 have hsmall : n + k ≤ 9223372036854775807 := by simp only [maxLen] at h63; omega
 have hlen : (xs ++ news).length = (n + k) * i.size := by rw [List.length_append, hown.1, hl, Nat.add_mul]
 rcases hown.2 with ⟨rfl, rfl⟩ | ⟨g, cap, cur, rfl, hbg, hg, hnc, hcm, hcs, htake⟩
 · have hx : xs = [] := List.eq_nil_of_length_eq_zero (by simpa using hown.1)
   subst hx
   by_cases hk : k = 0
   · have hn : news = [] := List.eq_nil_of_length_eq_zero (by simpa [hk] using hl)
     refine ⟨.slice none 0 0, w, h0 hk ty, ?_, ⟨rfl, rfl, rfl, Nat.le_refl _, fun _ _ _ => rfl⟩, fun b h => .inl h⟩
     rw [hn, hk]; exact World.ownsRow_nil w 0 e i.size
   · obtain ⟨rest, hrs, hr⟩ := hgrow ty none 0 0 [] (run_firstCells_none w.drew i.size 0 0 0) (by omega) (by omega) hsmall hbytes (growslice_fits (by omega) hbytes)
     obtain ⟨g1, g2⟩ := grown_row (w := w) (z := z) hzs (n := 0) (xs := []) (by simp) hl h63 0 (Value.ownBlock (.slice none 0 0)) rest hrs
     exact ⟨_, _, hr, g1, g2, fun b h => by simp [blk] at h; right; omega⟩
 · by_cases hrm : n + k ≤ cap
   · have hfit : n * i.size + news.length ≤ cur.size := by rw [hl, hcs, ← Nat.add_mul]; exact Nat.mul_le_mul_right _ hrm
     have hr := hroom ty g n cap cur hg hrm hfit
     refine ⟨_, _, hr, ⟨hlen, .inr ⟨g, cap, _, rfl, hbg, setRow_heap w g cur _ e _ hg, hrm, hcm, ?_, ?_⟩⟩, ⟨rfl, rfl, rfl, by simp, fun k _ hk => setRow_other w g k _ (fun e => hk (by simp [Value.ownBlock, e]))⟩, fun b h => .inl h⟩
     · simp only [List.size_toArray, List.length_append, List.length_take, List.length_drop, Array.length_toList]
       omega
     · rw [htake, ← hlen]
       exact List.take_left
   · have holds : ∀ j u, xs[j]? = some u → w.cell? ((⟨g, 0, none⟩ : Addr).add j) = some u := hown.cells (g := g) rfl
     obtain ⟨rest, hrs, hr⟩ := hgrow ty (some ⟨g, 0, none⟩) n cap xs (run_firstCells_some w.drew i.size n ⟨g, 0, none⟩ n cap xs hown.1 (by simpa using holds)) (by omega) (by omega) hsmall hbytes (growslice_fits (by omega) hbytes)
     obtain ⟨g1, g2⟩ := grown_row (w := w) (z := z) hzs hown.1 hl h63 cap (Value.ownBlock (.slice (some ⟨g, 0, none⟩) n cap)) rest hrs
     exact ⟨_, _, hr, g1, g2, fun b h => by simp [blk] at h; right; omega⟩
theorem appRun_string {t T' e : TypeId} {i : TypeInfo} {z : Value} (ht : P.underlying t = some (.slice e)) (hi : P.info? e = some i) (hz : i.zero = some z) (hzs : z.cells.size = i.size) (hsz : i.size = 1) (hT : P.underlying T' = some .string) (s : ByteArray) : AppRun P w t T' e i (.string s) s.size (byteCells s) := by
 have hs : Src P i.size T' (.string s) s.size (byteCells s) w := hsz ▸ Src.ofString w hT s
 refine appRun_arms ht hi hz hzs (by omega) hs.newsLen (fun h0 ty => ?_) (fun ty g n cap cur hg hroom hfit => ?_) (fun ty base n cap olds hold hk0 hg h63 hb hfit => ?_)
 · have hb : (byteCells s).toArray = #[] := by
    have := hs.newsLen
    rw [h0, Nat.zero_mul] at this
    rw [List.eq_nil_of_length_eq_zero this]
   have := hs.cells
   simp [Builtin.append_, run_underlying ht, run_underlying hT, sizeOf, typeInfo, hi, hs.len, this, h0]
   simp [h0] at this
   simp [this]
 · have hst := run_storeCells_at P g (n * i.size) e (byteCells s) 0 cur w hg (by simpa using hfit) hs.one
   simp only [Nat.add_zero] at hst
   simp [Builtin.append_, run_underlying ht, run_underlying hT, sizeOf, typeInfo, hi, hs.len, hroom, hs.cells, Addr.add_lit, hst]
 · exact ⟨_, by rw [size_zeroCells, hzs], run_append_grow_src w t T' ty e i z ht hi hz base n cap olds hold (.string s) s.size (byteCells s) hs hg (by omega) hfit⟩
theorem appRun_zeros {t T' e : TypeId} {i : TypeInfo} {z : Value} {kq kn : IntKind} (ht : P.underlying t = some (.slice e)) (hi : P.info? e = some i) (hz : i.zero = some z) (hzs : z.cells.size = i.size) (hsz : 0 < i.size) (hT : P.underlying T' = some (.int kn)) (h1 : ∀ u ∈ z.cells.toList, u.oneCell' = true) (k : Nat) (hk : k ≤ 9223372036854775807) (hkb : k * i.bytes ≤ 140737488355328) : AppRun P w t T' e i (.int kq k) k (Builtin.zeroCells z.cells k).toList := by
 have hw : IntKind.i64.wrap (k : Int) = k := by rw [IntKind.wrap_i64]; omega
 have hneg : ¬ ((k : Int) < 0) := by omega
 have h48i : ¬ (281474976710656 < (k : Int) * (i.bytes : Int)) := by rw [← Int.natCast_mul]; omega
 have hl : (Builtin.zeroCells z.cells k).toList.length = k * i.size := by rw [Array.length_toList, size_zeroCells, hzs]
 have hone : ∀ u ∈ (Builtin.zeroCells z.cells k).toList, u.oneCell' = true := by
  intro u hu
  simp only [Builtin.zeroCells, Array.toList_map, List.mem_map] at hu
  obtain ⟨j, _, rfl⟩ := hu
  have hm : j % z.cells.size < z.cells.size := Nat.mod_lt _ (by omega)
  rw [getElem!_pos z.cells (j % z.cells.size) hm]
  exact h1 _ (by simp)
 refine appRun_arms ht hi hz hzs hsz hl (fun h0 ty => ?_) (fun ty g n cap cur hg hroom hfit => ?_) (fun ty base n cap olds hold hk0 hg h63 hb hfit => ?_)
 · subst h0
   simp [Builtin.append_, run_underlying ht, run_underlying hT, sizeOf, typeInfo, hi, asInt, asIntOf]
   rw [show IntKind.i64.wrap 0 = 0 from by rw [IntKind.wrap_i64]; rfl]
   simp
 · have hst := run_storeCells_at P g (n * i.size) e (Builtin.zeroCells z.cells k).toList 0 cur w hg (by simpa using hfit) hone
   simp only [Nat.add_zero] at hst
   by_cases hk0 : k = 0
   · subst hk0
     have hz0 : (Builtin.zeroCells z.cells 0).toList = [] := by simp [Builtin.zeroCells]
     rw [hz0] at hst ⊢
     have hw0 : IntKind.i64.wrap 0 = 0 := by rw [IntKind.wrap_i64]; rfl
     simp [Builtin.append_, run_underlying ht, run_underlying hT, sizeOf, typeInfo, hi, asInt, asIntOf, hw0, show n ≤ cap by omega, Addr.add_lit, hst]
   · have hns : ¬ (k * i.size = 0) := Nat.mul_ne_zero hk0 (by omega)
     simp [Builtin.append_, run_underlying ht, run_underlying hT, sizeOf, typeInfo, zeroValue, hi, hz, asInt, asIntOf, hw, hneg, h48i, hns, hroom, Addr.add_lit, hst]
 · have := Lib.run_append_grow_zeros w t T' ty e i z kq kn ht hT hi hz base n cap olds hold k hk0 hsz hg (by omega) (by omega) hfit
   refine ⟨_, by rw [size_zeroCells, hzs], ?_⟩
   rw [this]
   congr 4
   apply Array.ext'
   simp
theorem appRun_noughts {t T' e : TypeId} {i : TypeInfo} {z : Value} {kq kn : IntKind} (ht : P.underlying t = some (.slice e)) (hi : P.info? e = some i) (hz : i.zero = some z) (hzs : z.cells.size = i.size) (hsz : 0 < i.size) (hT : P.underlying T' = some (.int kn)) (h1 : ∀ u ∈ z.cells.toList, u.oneCell' = true) (k : Nat) : AppRun P w t T' e i (.int kq k) k (Builtin.zeroCells z.cells k).toList := by
 intro ty v n xs hown h63 hb
 have hk : k * i.bytes ≤ (n + k) * i.bytes := Nat.mul_le_mul_right _ (by omega)
 exact appRun_zeros ht hi hz hzs hsz hT h1 k (by simp only [maxLen] at h63; omega) (by omega) ty hown h63 hb
theorem strL_len (s : ByteArray) : (strL s).length = s.size := by
 unfold strL
 rw [List.length_map, Array.length_toList]; rfl
theorem strL_rep (s : ByteArray) : RepL (Rep w ok (.int .u8)) (strL s) (byteCells s) := by
 unfold strL byteCells
 induction s.data.toList with
 | nil => rfl
 | cons b r ih => exact ⟨[.int .u8 b.toNat], _, rfl, rfl, ih⟩
theorem args_two {α : Type} {xs : Array α} {x y : α} (h : xs.toList = [x, y]) : xs = #[x, y] := by
 apply Array.ext'; simpa using h
theorem args_one {α : Type} {xs : Array α} {x : α} (h : xs.toList = [x]) : xs = #[x] := by
 apply Array.ext'; simpa using h
theorem Here.grown (h : Here P cx w0 ok0 m ok st a w) {d : Nat} {e : TypeId} {t : Ty} {zs : List t.D} {v v' : Value} {w' : World} {inner : List Value}
 (hg : w.grownBy w' v.ownBlock) (hvs : v.ownBlock = blk v) (hown : w'.ownsRow 0 e t.size v' zs.length inner) (hr : RepL (Rep w ok t) zs inner)
 (hb : ∀ b, blk v' = some b → blk v = some b ∨ w.heap.size ≤ b)
 (hv : ∀ b, blk v = some b → ¬ ok b ∧ w0.fr b ∧ b < w.heap.size ∧ ∀ id o', fnd id st.hp = some o' → blk (m id) ≠ some b) (hvc : ∀ b, blk v = some b → ∃ c T z, w.heap[b]? = some (.cells c T z)) :
 Nxt w0 ok0 (fun s => s = st.mk_ d (.row e t zs) (.row d)) (a.put (some d) v') w' := by
 rw [hvs] at hg
 have hok : ∀ b, ok b → w'.heap[b]? = w.heap[b]? := fun b hb => hg.block b (h.r.okb b hb) (fun e => (hv b e.symm).1 hb)
 have hw := h.r.world (w' := w') (ok' := ok) hok (fun id ob b ho hb' => hg.block b (h.r.sep id ob b ho hb').2.2 (fun e => (hv b e.symm).2.2.2 id ob ho hb')) hg.size
  ⟨hg.os.trans h.r.keep.os, hg.tape.trans h.r.keep.tape, hg.output.trans h.r.keep.output, Nat.le_trans h.r.keep.size hg.size, fun k hk hx => by
   rw [hg.block k (Nat.lt_of_lt_of_le hk h.r.keep.size) (fun e => Bas.no hk hx (hv k e.symm).2.1 rfl)]; exact h.r.keep.block k hk hx⟩
  (fun _ h => h) (fun b hb => Nat.lt_of_lt_of_le (h.r.okb b hb) hg.size) (fun id ob b ho hb => (h.r.sep id ob b ho hb).1)
  (fun D _ c n => ⟨n, hg.block D (Array.getElem?_eq_some_iff.1 c).1 (fun e => by obtain ⟨c', T, z, e'⟩ := hvc D e.symm; rw [e'] at c; cases c)⟩)
 refine ⟨_, rfl, _, ok, hw.mk_ d (.row e t zs) (.row d) v' v' ⟨inner, hown, RepL.imp (fun x c r => r.move hok (fun _ h => h)) hr⟩ ?_ ?_ ?_, h.f⟩
 · intro e' t' xs' hf; simp
 · intro b hb'
   have hlt : b < w'.heap.size := by
    rcases hown.2 with ⟨rfl, _⟩ | ⟨g, cap, cur, rfl, _, hgg, _⟩
    · simp [blk] at hb'
    · simp [blk] at hb'; subst hb'; exact (Array.getElem?_eq_some_iff.1 hgg).1
   rcases hb b hb' with h1 | h1
   · exact ⟨(hv b h1).1, (hv b h1).2.1, hlt⟩
   · exact ⟨fun hk => by have := h.r.okb b hk; omega, h.r.keep.old h1, hlt⟩
 · intro b id o' hne hf hb' hb''
   rcases hb b hb' with h1 | h1
   · exact (hv b h1).2.2.2 id o' hf hb''
   · have := (h.r.sep id o' b hf hb'').2.2; omega
theorem RepL.one' {t : Ty} {xs : List t.D} {cs : List Value} (h : RepL (Rep w ok t) xs cs) : ∀ u ∈ cs, u.oneCell' = true := RepL.one (p := fun u => u.oneCell' = true) (fun x c r => r.one) h
theorem src_rep (r : Rel w0 m ok st a w) {q : AV0} {v : Value} {e : TypeId} {t : Ty} {ys : List t.D} (h : RepA0 w ok m st.hp q v) (hq : q.ro st.hp = .tv (.sl e t) ys) :
 ∃ A c news, v = .slice A ys.length c ∧ RepL (Rep w ok t) ys news ∧ ((A = none ∧ ys.length = 0) ∨ ∃ ad, A = some ad ∧ ∀ (j : Nat) (u : Value), news[j]? = some u → w.cell? (ad.add j) = some u) := by
 cases q with
 | tv t' x =>
  simp only [AV0.ro] at hq
  cases hq
  obtain ⟨A, cc, news, hxv, hle, hm, hl⟩ := RepV.sl h
  refine ⟨A, cc, news, hxv, hl, ?_⟩
  rcases hm with rfl | ⟨ad, e1, _, e2⟩
  · cases A with
    | none => exact .inl ⟨rfl, rfl⟩
    | some ad => refine .inr ⟨ad, rfl, fun j u hu => ?_⟩; have : news = [] := hl; subst this; simp at hu
  · exact .inr ⟨ad, e1, e2⟩
 | row id =>
  simp only [AV0.ro] at hq
  split at hq
  · rename_i e1 t1 xs hf
    cases hq
    obtain ⟨inner, hown, hl⟩ := r.ob id _ hf
    have hv := h _ _ _ hf
    rcases hown.2 with ⟨e2, hn⟩ | ⟨g, cap, cur, e2, hb, hg, hle, hcap, hsz, htake⟩
    · exact ⟨none, 0, inner, by rw [hv, e2, hn], hl, .inl ⟨rfl, hn⟩⟩
    · rw [e2] at hown
      exact ⟨some ⟨g, 0, none⟩, cap, inner, by rw [hv, e2], hl, .inr ⟨_, rfl, fun j u hu => World.ownsRow.cells (g := g) hown rfl j u hu⟩⟩
  · cases hq
 | _ => simp [AV0.ro] at hq
theorem pk_rep (r : Rel w0 m ok st a w) {q : AV0} {v : Value} {e : TypeId} {t : Ty} {ys : List t.D} (h : RepA0 w ok m st.hp q v) (hq : q.pk st.hp = .tv (.sl e t) ys) :
 ∃ A c news, v = .slice A ys.length c ∧ ys.length ≤ c ∧ RepL (Rep w ok t) ys news ∧ ((A = none ∧ ys.length = 0) ∨ ∃ ad, A = some ad ∧ ∀ (j : Nat) (u : Value), news[j]? = some u → w.cell? (ad.add j) = some u) := by
 have old : q.ro st.hp = .tv (.sl e t) ys → ∃ A c news, v = .slice A ys.length c ∧ ys.length ≤ c ∧ RepL (Rep w ok t) ys news ∧ ((A = none ∧ ys.length = 0) ∨ ∃ ad, A = some ad ∧ ∀ (j : Nat) (u : Value), news[j]? = some u → w.cell? (ad.add j) = some u) := by
  intro hq
  cases q with
  | tv t' x =>
   simp only [AV0.ro] at hq
   cases hq
   obtain ⟨A, cc, news, hxv, hle, hm, hl⟩ := RepV.sl h
   refine ⟨A, cc, news, hxv, hle, hl, ?_⟩
   rcases hm with rfl | ⟨ad, e1, _, e2⟩
   · cases A with
     | none => exact .inl ⟨rfl, rfl⟩
     | some ad => refine .inr ⟨ad, rfl, fun j u hu => ?_⟩; have : news = [] := hl; subst this; simp at hu
   · exact .inr ⟨ad, e1, e2⟩
  | row id =>
   simp only [AV0.ro] at hq
   split at hq
   · rename_i e1 t1 xs hf
     cases hq
     obtain ⟨inner, hown, hl⟩ := r.ob id _ hf
     have hv := h _ _ _ hf
     rcases hown.2 with ⟨e2, hn⟩ | ⟨g, cap, cur, e2, hb, hg, hle, hcap, hsz, htake⟩
     · exact ⟨none, 0, inner, by rw [hv, e2, hn], by omega, hl, .inl ⟨rfl, hn⟩⟩
     · rw [e2] at hown
       exact ⟨some ⟨g, 0, none⟩, cap, inner, by rw [hv, e2], hle, hl, .inr ⟨_, rfl, fun j u hu => World.ownsRow.cells (g := g) hown rfl j u hu⟩⟩
   · cases hq
  | _ => simp [AV0.ro] at hq
 unfold AV0.pk at hq
 split at hq
 · rename_i id off n e1 t1
   split at hq
   · rename_i T0 bt x0 hf
     split at hq
     · rename_i xs hg
       cases hq
       obtain ⟨b, hm, hv⟩ := h _ _ _ hf
       obtain ⟨⟨cs, ⟨A, c, inner, hcs, hle, hA, hl⟩, hv2⟩, _⟩ := arr_reads (ok' := fun b' => ok b' ∨ b' = b) (e := e) (r.ob id _ hf) hm hg (fun _ h => .inl h) (.inr rfl)
       simp [Ty.isAgg] at hv2
       subst hv2
       obtain ⟨b2, cells, hm2, hb, hr⟩ := r.ob id _ hf
       obtain rfl := ptr_block hm hm2
       obtain ⟨c1, d1, e1, hcs1, hl1, hlen, hrl⟩ := getAt_rep hg hr
       have hlen : ys.length = n := hlen
       refine ⟨some ⟨b, off, none⟩, n, d1, by rw [hv, hlen], by omega, hrl, .inr ⟨_, rfl, fun j u hu => ?_⟩⟩
       have e1 : Addr.add ⟨b, off, none⟩ j = ⟨b, off + j, none⟩ := by unfold Addr.add; split <;> simp_all
       rw [e1]
       have : cells.toList[off + j]? = some u := by
        rw [hcs1, ← hl1]; exact mid_get hu
       simp [World.cell?, hb] at this ⊢
       exact this
     · cases hq
   · cases hq
 · exact old hq
theorem op_append (h : Here P cx w0 ok0 m ok st a w) {c : Call} (ho : o.op = .call c) (hc : c.callee = .builtin .append) (hk : aop cx o K st) : o.wp P a w (Nxt w0 ok0 K) Q := by
 unfold aop at hk
 rw [ho] at hk
 simp only [hc] at hk
 split at hk
 · rename_i s x TT T' d hargs htys hd
   have ea := args_two hargs
   have et := args_two htys
   unfold one at hk
   split at hk
   rotate_left
   · exact hk.elim
   rename_i q hq
   have hx := h.r.op cx T' x
   rw [hq] at hx
   replace hx : RepA0 w ok m st.hp q (a.eval x) := hx
   clear hq
   have key : ∀ (x' : AV0), (∀ {e : TypeId} {t : Ty} {ys : List t.D} {i : TypeInfo} {z : Value}, cx.ty TT = some (.sl e t) → x' = .tv (.sl e t) ys → P.info? e = some i → i.size = t.size → i.zero = some z → z.cells.toList = t.zcells → 0 < i.size → ∃ news, AppRun P w TT T' e i (a.eval x) ys.length news ∧ RepL (Rep w ok t) ys news) →
    ∀ (sv : Option AV0), (sv = none ∧ a.eval s = .slice none 0 0 ∨ ∃ p, sv = some p ∧ RepA0 w ok m st.hp p (a.eval s)) → appendA cx st TT d sv x' K → o.wp P a w (Nxt w0 ok0 K) Q := by
    intro x' hsrc sv hsv hk
    unfold appendA at hk
    split at hk
    · rename_i e t e' t' ys hT
      split at hk
      · rename_i ys' hcst
        obtain ⟨hT1, hT2⟩ := sl_size (h.cx.ty TT _ hT)
        obtain ⟨i, z, hi, hsz, hz, hzc⟩ := hT2.inf.out
        obtain ⟨hne, hbt⟩ := h.cx.bytes TT e t hT
        have hbt := hbt i hi
        obtain ⟨hee, hys⟩ := cast?_some hcst
        cases hee
        have hys : ys' = ys := hys
        subst hys
        obtain ⟨news, har, hl⟩ := hsrc hT rfl hi hsz hz hzc (by omega)
        have fin : ∀ {v' : Value} {w' : World} {v : Value}, a.eval s = v → (Builtin.append_ #[TT, T'] o.type #[v, a.eval x]).run P w = .ok v' w' → (execOp a.eval o).run P w = .ok (.value v') w' := by
         intro v' w' v e hr
         simp [execOp, ho, resolve, hc, ea, et, invoke, builtin, e, hr]
        split at hk
        · rename_i id
          split at hk
          · rename_i e1 t1 xs hf
            split at hk
            · rename_i xs' hcx
              obtain ⟨⟨hb1, hb2⟩, hk⟩ := hk
              have hs : RepA0 w ok m st.hp (.row id) (a.eval s) := by
               rcases hsv with ⟨e, _⟩ | ⟨p, e, hs⟩
               · cases e
               · cases e; exact hs
              have hv : a.eval s = m id := hs _ _ _ hf
              obtain ⟨he, hxs⟩ := cast?_some hcx
              cases he
              have hxs : xs' = xs := hxs
              subst hxs
              obtain ⟨inner, hown, hrl⟩ := h.r.ob id _ hf
              obtain ⟨v', w', hr, ho2, hg, hbl⟩ := har o.type (hsz ▸ hown) (by simp only [maxLen]; simp; omega) (by rw [hbt]; exact hb2)
              refine wp_val (fin hv hr) ?_
              rw [hd]
              have hgo := (show Here P cx w0 ok0 m ok { st with hp := del id st.hp } a w from ⟨h.cx, h.r.del_ id, h.f⟩).grown (d := d) (e := e) (t := t) (zs := xs' ++ ys') (v := m id) hg
               (blk_own (by rcases hown.2 with ⟨e, _⟩ | ⟨g, cap, cur, e, _⟩ <;> exact ⟨_, _, _, e⟩)) (by rw [List.length_append]; exact hsz ▸ ho2) ?_ hbl ?_ (fun b hb => (h.r.ob id _ hf).cells hb)
              · obtain ⟨s', rfl, hr'⟩ := hgo
                exact ⟨_, hk, hr'⟩
              · exact RepL.append hrl hl
              · intro b hb
                have := h.r.sep id _ b hf hb
                refine ⟨this.1, this.2.1, this.2.2, fun id' o' hf' hb' => ?_⟩
                rw [fnd_del] at hf'
                split at hf'
                · cases hf'
                · rename_i hne; exact hne (h.r.inj id' id o' _ b hf' hf hb' hb)
            · exact hk.elim
          · exact hk.elim
        · obtain ⟨⟨hb1, hb2⟩, hk⟩ := hk
          have hv : a.eval s = .slice none 0 0 := by
           rcases hsv with ⟨_, hs⟩ | ⟨p, e, _⟩
           · exact hs
           · cases e
          obtain ⟨v', w', hr, ho2, hg, hbl⟩ := har o.type (World.ownsRow_nil w 0 e i.size) (by simp only [maxLen]; simp; omega) (by rw [hbt, Nat.zero_add]; exact hb2)
          refine wp_val (fin hv hr) ?_
          rw [hd]
          have hgo := h.grown (d := d) (e := e) (t := t) (zs := ys') (v := .slice none 0 0) hg rfl (by simpa [hsz] using ho2) (by simpa using hl) hbl (fun b hb => by simp [blk] at hb) (fun b hb => by simp [blk] at hb)
          obtain ⟨s', rfl, hr'⟩ := hgo
          exact ⟨_, hk, hr'⟩
        · exact hk.elim
      · exact hk.elim
    · exact hk.elim
   have both : ∀ (x' : AV0), (∀ {e : TypeId} {t : Ty} {ys : List t.D} {i : TypeInfo} {z : Value}, cx.ty TT = some (.sl e t) → x' = .tv (.sl e t) ys → P.info? e = some i → i.size = t.size → i.zero = some z → z.cells.toList = t.zcells → 0 < i.size → ∃ news, AppRun P w TT T' e i (a.eval x) ys.length news ∧ RepL (Rep w ok t) ys news) →
    (match isNil s with
     | true => appendA cx st TT d none x' K
     | false => one (opA cx st TT s) fun s => appendA cx st TT d (some s) x' K) → o.wp P a w (Nxt w0 ok0 K) Q := by
    intro x' hsrc hk
    split at hk
    · rename_i hn
      refine key x' hsrc none (.inl ⟨rfl, ?_⟩) hk
      unfold isNil at hn
      split at hn
      · rfl
      · cases hn
    · unfold one at hk
      split at hk
      · rename_i p hp
        have hs := h.r.op cx TT s
        rw [hp] at hs
        exact key x' hsrc (some p) (.inr ⟨p, rfl, hs⟩) hk
      · exact hk.elim
   unfold srcA at hk
   split at hk
   · rename_i hbt
     have hTT := Nat.eq_of_beq_eq_true hbt
     refine both _ ?_ hk
     intro e t ys i z hT hx' hi hsz hz hzc hpos
     obtain ⟨A, c, news, hv, _, hl, hA⟩ := pk_rep h.r hx hx'
     obtain ⟨hT1, hT2⟩ := sl_size (h.cx.ty TT _ hT)
     have hzs : z.cells.size = i.size := by rw [hsz, ← Array.length_toList, hzc]; exact zcells_len t
     refine ⟨news, ?_, hl⟩
     rw [hv, hTT]
     exact appRun_slice hT1 hi hz hzs hpos (by rw [hsz]; exact RepL.len (s := t.size) (fun x c r => Rep.len r) hl) hA (RepL.one' hl)
   · split at hk
     · rename_i e1 s1 hT1 hT2
       refine both _ ?_ hk
       intro e t ys i z hT hx' hi hsz hz hzc hpos
       cases hx'
       obtain ⟨hU1, hU2⟩ := sl_size (h.cx.ty TT _ hT)
       have hzs : z.cells.size = i.size := by rw [hsz, ← Array.length_toList, hzc]; exact zcells_len (.int .u8)
       refine ⟨byteCells s1, ?_, strL_rep s1⟩
       rw [show a.eval x = .string s1 from RepV.str hx, strL_len]
       exact appRun_string hU1 hi hz hzs hsz (h.cx.ty T' _ hT2).1 s1
     · rename_i e1 t1 kn kq n hT1 hT2
       obtain ⟨hn, hk⟩ := hk
       refine both _ ?_ hk
       intro e t ys i z hT hx' hi hsz hz hzc hpos
       cases hx'
       obtain ⟨hU1, hU2⟩ := sl_size (h.cx.ty TT _ hT)
       have hzs : z.cells.size = i.size := by rw [hsz, ← Array.length_toList, hzc]; exact zcells_len _
       have hn' : (0 : Int) ≤ (n : Int) := hn
       obtain ⟨k, hkn⟩ := Int.eq_ofNat_of_zero_le hn'
       refine ⟨(Builtin.zeroCells z.cells (Int.toNat n)).toList, ?_, ?_⟩
       · rw [List.length_replicate, show a.eval x = .int kq n from RepV.int hx, show (n : Int) = ((Int.toNat n : Nat) : Int) from (Int.toNat_of_nonneg hn').symm, Int.toNat_natCast]
         exact appRun_noughts hU1 hi hz hzs hpos (h.cx.ty T' _ hT2).1 (by rw [hzc]; exact (Rep.zero (w := w) (ok := ok) t1 (h.cx.np TT (.sl _ _) hT1)).one) _
       · have := zeros_rep (w := w) (ok := ok) hU2 (by omega) (h.cx.np TT (.sl _ _) hT1) hi hz (Int.toNat n)
         rw [← hzs] at this
         exact this
     · exact hk.elim
 · exact hk.elim
theorem cpy_nil {α : Type} {ys xs : List α} (h : Nat.min ys.length xs.length = 0) : cpy ys xs = xs := by
 have h' : ys.length = 0 ∨ xs.length = 0 := by
  rcases Nat.le_total ys.length xs.length with h1 | h1
  · rw [show Nat.min ys.length xs.length = ys.length from Nat.min_eq_left h1] at h; exact .inl h
  · rw [show Nat.min ys.length xs.length = xs.length from Nat.min_eq_right h1] at h; exact .inr h
 rcases h' with h' | h'
 · have : ys = [] := List.eq_nil_of_length_eq_zero h'
   subst this; simp [cpy]
 · have : xs = [] := List.eq_nil_of_length_eq_zero h'
   subst this; simp [cpy]
theorem cpy_len {α : Type} {ys xs : List α} : (cpy ys xs).length = xs.length := by
 unfold cpy
 rw [List.length_append, List.length_take, List.length_drop]
 omega
theorem RepL.cpy {α : Type} {R : α → List Value → Prop} (hs : ∀ x c, R x c → c.length = 1) {ys xs : List α} {news inner : List Value} (h1 : RepL R ys news) (h2 : RepL R xs inner) : RepL R (cpy ys xs) (news.take (Nat.min ys.length xs.length) ++ inner.drop (Nat.min ys.length xs.length)) := by
 have e1 : ys.take xs.length = ys.take (Nat.min ys.length xs.length) := by
  rcases Nat.le_total ys.length xs.length with h | h
  · rw [show Nat.min ys.length xs.length = ys.length from Nat.min_eq_left h, List.take_of_length_le h, List.take_length]
  · rw [show Nat.min ys.length xs.length = xs.length from Nat.min_eq_right h]
 have e2 : xs.drop ys.length = xs.drop (Nat.min ys.length xs.length) := by
  rcases Nat.le_total ys.length xs.length with h | h
  · rw [show Nat.min ys.length xs.length = ys.length from Nat.min_eq_left h]
  · rw [show Nat.min ys.length xs.length = xs.length from Nat.min_eq_right h, List.drop_length, List.drop_of_length_le h]
 have hm1 : Nat.min ys.length xs.length ≤ ys.length := Nat.min_le_left ..
 have hm2 : Nat.min ys.length xs.length ≤ xs.length := Nat.min_le_right ..
 unfold Go.Iv.cpy
 rw [e1, e2]
 generalize Nat.min ys.length xs.length = n at hm1 hm2
 rw [← List.take_append_drop n ys] at h1
 rw [← List.take_append_drop n xs] at h2
 obtain ⟨a, b, rfl, k1, _⟩ := RepL.split h1
 obtain ⟨c, d, rfl, k3, k4⟩ := RepL.split h2
 have la : a.length = n := by rw [RepL.len hs k1, List.length_take, Nat.min_eq_left hm1, Nat.mul_one]
 have lc : c.length = n := by rw [RepL.len hs k3, List.length_take, Nat.min_eq_left hm2, Nat.mul_one]
 rw [List.take_left' la, List.drop_left' lc]
 exact RepL.append k1 k4
theorem op_copy (h : Here P cx w0 ok0 m ok st a w) {c : Call} (ho : o.op = .call c) (hc : c.callee = .builtin .copy) (hk : aop cx o K st) : o.wp P a w (Nxt w0 ok0 K) Q := by
 unfold aop at hk
 rw [ho] at hk
 simp only [hc] at hk
 split at hk
 rotate_left
 · exact hk.elim
 rename_i d s T T' hargs htys
 have ea := args_two hargs
 have et := args_two htys
 unfold one at hk
 split at hk
 rotate_left
 · exact hk.elim
 rename_i p hp
 have hd := h.r.op cx T d
 rw [hp] at hd
 replace hd : RepA0 w ok m st.hp p (a.eval d) := hd
 clear hp
 split at hk
 rotate_left
 · exact hk.elim
 rename_i q hq
 have hs := h.r.op cx T' s
 rw [hq] at hs
 replace hs : RepA0 w ok m st.hp q (a.eval s) := hs
 clear hq
 have fin : ∀ {v' : Value} {w' : World}, (Builtin.copy_ #[T, T'] o.type #[a.eval d, a.eval s]).run P w = .ok v' w' → (execOp a.eval o).run P w = .ok (.value v') w' := by
  intro v' w' hr
  simp [execOp, ho, resolve, hc, ea, et, invoke, builtin, hr]
 unfold copyA at hk
 split at hk
 · rename_i e t id e' t' ys hT hq'
   split at hk
   · rename_i ys' hcst
     obtain ⟨hee, hys⟩ := cast?_some hcst
     cases hee
     have hys : ys' = ys := hys
     subst hys
     split at hk
     · rename_i e2 t2 xs hf
       have hk2 := stat_out hk
       clear hk
       obtain ⟨hst, hk⟩ := hk2
       simp only [Bool.and_eq_true] at hst
       have hsz := Nat.eq_of_beq_eq_true hst.2
       have he2 := Nat.eq_of_beq_eq_true hst.1
       subst he2
       split at hk
       · rename_i xs' hcx
         obtain ⟨he, hxs⟩ := cast?_some hcx
         cases he
         have hxs : xs' = xs := hxs
         subst hxs
         obtain ⟨hT1, hT2⟩ := sl_size (h.cx.ty T _ hT)
         obtain ⟨i, z, hi, hsi, hz, hzc⟩ := hT2.inf.out
         have hsome : (P.info? e2).map (·.size) = some 1 := by rw [hi]; simp [hsi, hsz]
         obtain ⟨A, cc, news, hsv, hcc, hl, hA⟩ := pk_rep h.r hs hq'
         have hdv : a.eval d = m id := hd _ _ _ hf
         obtain ⟨inner, hown, hrl⟩ := h.r.ob id _ hf
         have hdv2 : ∃ B cap, m id = .slice B xs'.length cap := by
          rcases hown.2 with ⟨e, hn⟩ | ⟨g, cap, cur, e, _⟩
          · exact ⟨none, 0, by rw [e, hn]⟩
          · exact ⟨_, _, e⟩
         by_cases hmin : Nat.min ys'.length xs'.length = 0
         · obtain ⟨B, cap, hB⟩ := hdv2
           have hr := run_copy_none (P := P) w T T' o.type e2 B A xs'.length cap ys'.length cc hT1 hsome hmin
           refine wp_val (fin (by rw [hdv, hB, hsv]; exact hr)) ⟨_, hk, m, ok, Rel.put (x := .v (.tv (.int .i64) _)) (h.r.rf_ (rf' := st.rf) (fun i => ?_) h.r.rfs) (by rw [hmin]; exact RepV.of_int) o.dst, h.f⟩
           rw [cpy_nil hmin, fnd_ins]
           split
           · rename_i e1; rw [e1]; exact hf.symm
           · rfl
         · have hpos : 0 < ys'.length ∧ 0 < xs'.length := by
            have h1 : Nat.min ys'.length xs'.length ≤ ys'.length := Nat.min_le_left ..
            have h2 : Nat.min ys'.length xs'.length ≤ xs'.length := Nat.min_le_right ..
            omega
           rcases hA with ⟨_, h0⟩ | ⟨ad, rfl, hnews⟩
           · omega
           rcases hown.2 with ⟨_, h0⟩ | ⟨g, cap, cur, hg, hbg, hcur, hle, hcm, hcs, htake⟩
           · omega
           have hnl : news.length = ys'.length := by rw [RepL.len (s := 1) (fun x c r => by rw [Rep.len r, hsz]) hl, Nat.mul_one]
           have hil : inner.length = xs'.length := by rw [RepL.len (s := 1) (fun x c r => by rw [Rep.len r, hsz]) hrl, Nat.mul_one]
           have hm1 : Nat.min ys'.length xs'.length ≤ ys'.length := Nat.min_le_left ..
           have hm2 : Nat.min ys'.length xs'.length ≤ xs'.length := Nat.min_le_right ..
           rw [hsz, Nat.mul_one] at hcs htake
           have hcl : (news.take (Nat.min ys'.length xs'.length)).length = Nat.min ys'.length xs'.length := by rw [List.length_take, Nat.min_eq_left (by omega)]
           have hr := run_copy_row (P := P) w T T' o.type e2 g 0 xs'.length cap ad ys'.length cc cur e2 (news.take (Nat.min ys'.length xs'.length)) hT1 hsome hcur hcl
            (fun j v hv => hnews j v (by rw [List.getElem?_take] at hv; split at hv; exact hv; cases hv)) (by rw [hcl]; omega) (fun u hu => RepL.one' hl u (List.mem_of_mem_take hu))
           rw [hcl] at hr
           simp only [List.take_zero, List.nil_append, Nat.zero_add] at hr
           have hrep := RepL.cpy (fun x c (r : Rep w ok t x c) => by rw [Rep.len r, hsz]) hl hrl
           have hh := h.setRow (ob' := .row e2 t (cpy (α := t.D) ys' xs')) hf (by rw [hg]; rfl) cur (news.take (Nat.min ys'.length xs'.length) ++ cur.toList.drop (Nat.min ys'.length xs'.length)).toArray e2 hcur ⟨fun _ _ _ h => (by cases h; exact ⟨_, rfl⟩), fun T t x h => (nomatch h)⟩
            (fun w' hok hb' => by
             refine ⟨_, ⟨?_, .inr ⟨g, cap, _, by rw [hg, cpy_len], Nat.zero_le _, hb', by rw [cpy_len]; exact hle, hcm, ?_, ?_⟩⟩, RepL.imp (fun x c r => r.move hok (fun _ h => h)) hrep⟩
             · rw [cpy_len, hsz, Nat.mul_one, List.length_append, hcl, List.length_drop, hil]; omega
             · simp only [List.size_toArray, List.length_append, hcl, List.length_drop, Array.length_toList]
               rw [hsz, Nat.mul_one, hcs]; omega
             · rw [cpy_len, hsz, Nat.mul_one]
               show List.take xs'.length (news.take _ ++ cur.toList.drop _) = _
               rw [List.take_append, List.take_of_length_le (by rw [hcl]; exact hm2), hcl]
               congr 1
               rw [← htake, List.drop_take])
            (fun off v _ T1 t1 x1 hx => (nomatch hx))
           refine wp_val (fin (by rw [hdv, hg, hsv]; exact hr)) ⟨_, hk, m, ok, hh.r.put (x := .v (.tv (.int .i64) _)) RepV.of_int o.dst, hh.f⟩
       · exact hk.elim
     · exact hk.elim
   · exact hk.elim
 · rename_i e t id off n e2 t2 e' t' ys hT hq'
   split at hk
   · rename_i ys' hcst
     obtain ⟨hee, hys⟩ := cast?_some hcst
     cases hee
     have hys : ys' = ys := hys
     subst hys
     split at hk
     · rename_i T0 bt x0 hf
       obtain ⟨hst, hk⟩ := stat_out hk
       simp only [Bool.and_eq_true, decide_eq_true_eq] at hst
       have hsz := Nat.eq_of_beq_eq_true hst.2
       obtain rfl := hst.1
       split at hk
       · rename_i xs hg
         split at hk
         · rename_i x1 hset
           obtain ⟨hno, hk⟩ := stat_out hk
           obtain ⟨hT1, hT2⟩ := sl_size (h.cx.ty T _ hT)
           obtain ⟨i, z, hi, hsi, hz, hzc⟩ := hT2.inf.out
           have hsome : (P.info? e).map (·.size) = some 1 := by rw [hi]; simp [hsi, hsz]
           obtain ⟨A, cc, news, hsv, hcc, hl, hA⟩ := pk_rep h.r hs hq'
           obtain ⟨b, hm, hdv⟩ := hd _ _ _ hf
           obtain ⟨b', cells, hm', hb, hr0⟩ := h.r.ob id _ hf
           obtain rfl := ptr_block hm hm'
           obtain ⟨c1, d1, e1, hcs, hl1, hlen, hrl⟩ := getAt_rep hg hr0
           have hlen : xs.length = n := hlen
           have hnl : news.length = ys'.length := by rw [RepL.len (s := 1) (fun x c r => by rw [Rep.len r, hsz]) hl, Nat.mul_one]
           have hdl : d1.length = n := by rw [RepL.len (s := 1) (fun x c r => by rw [Rep.len r, hsz]) hrl, Nat.mul_one, hlen]
           have hm1 : Nat.min ys'.length n ≤ ys'.length := Nat.min_le_left ..
           have hm2 : Nat.min ys'.length n ≤ n := Nat.min_le_right ..
           have hrep := RepL.cpy (fun x c (r : Rep w ok t2 x c) => by rw [Rep.len r, hsz]) hl hrl
           rw [hlen] at hrep
           have hcl : (news.take (Nat.min ys'.length n)).length = Nat.min ys'.length n := by rw [List.length_take, Nat.min_eq_left (by omega)]
           have hdl' : (news.take (Nat.min ys'.length n) ++ d1.drop (Nat.min ys'.length n)).length = n := by rw [List.length_append, hcl, List.length_drop, hdl]; omega
           obtain ⟨cA, dA, eA, hcsA, hlA, hdA, hrA⟩ := setAt_rep hset hr0 (show Rep w ok (.arr n t2) (cpy (α := t2.D) ys' xs) _ from ⟨by rw [cpy_len]; exact hlen, hrep⟩)
           obtain ⟨h5, h6⟩ := List.append_inj (hcsA.symm.trans hcs) (by rw [List.length_append, List.length_append, hlA, hl1, hdA, hdl', hdl])
           obtain ⟨rfl, rfl⟩ := List.append_inj h5 (by rw [hl1, hlA])
           subst h6
           -- the cells behind it
           have hcells : cells.toList.take off ++ news.take (Nat.min ys'.length n) ++ cells.toList.drop (off + Nat.min ys'.length n) = cA ++ (news.take (Nat.min ys'.length n) ++ dA.drop (Nat.min ys'.length n)) ++ eA := by
            rw [hcs, ← hl1, List.append_assoc cA, List.take_left]
            have : (cA ++ (dA ++ eA)).drop (cA.length + Nat.min ys'.length n) = dA.drop (Nat.min ys'.length n) ++ eA := by
             rw [List.drop_append, List.drop_append, List.drop_of_length_le (by omega : cA.length ≤ cA.length + _)]
             rw [List.nil_append, Nat.add_sub_cancel_left]
             congr 1
             rw [show Nat.min ys'.length n - dA.length = 0 by omega, List.drop_zero]
            rw [this]
            simp
           have hrun : ∃ w2, (Builtin.copy_ #[T, T'] o.type #[a.eval d, a.eval s]).run P w = .ok (goInt (Nat.min ys'.length n : Nat)) w2 ∧ Here P cx w0 ok0 m ok { st with hp := ins id (.box T0 bt x1) st.hp } a w2 := by
            have same : ∀ cells2 : Array Value, cells2.toList = cA ++ (news.take (Nat.min ys'.length n) ++ dA.drop (Nat.min ys'.length n)) ++ eA → Here P cx w0 ok0 m ok { st with hp := ins id (.box T0 bt x1) st.hp } a (w.setRow b cells2) := by
             intro cells2 h2
             refine h.setRow (ob' := .box T0 bt x1) hf (by rw [hm]; rfl) cells cells2 T0 hb ⟨fun _ _ _ h => (nomatch h), fun T t x h => (by cases h; exact ⟨_, rfl⟩)⟩ (fun w' hok hb' => ⟨b, _, hm, hb', by rw [h2]; exact hrA.move hok (fun _ h => h)⟩) (fun off' v hu _ _ _ _ hv => ?_)
             have hor : off' < off ∨ off + n ≤ off' := by
              rcases Nat.lt_or_ge off' off with h | h
              · exact .inl h
              · rcases Nat.lt_or_ge off' (off + n) with h3 | h3
                · exact (hu (noR_spec hno off' h (by rw [hsz, Nat.mul_one]; exact h3))).elim
                · exact .inr h3
             rw [← Array.getElem?_toList, hcs] at hv
             rw [← Array.getElem?_toList, h2]
             exact mid_out (by rw [hdl, hdl']) (by rw [hl1, hdl]; exact hor) hv
            by_cases hmin : Nat.min ys'.length n = 0
            · have hr := run_copy_none (P := P) w T T' o.type e (some ⟨b, off, none⟩) A n n ys'.length cc hT1 hsome hmin
              refine ⟨w, by rw [hdv, hsv, hmin]; exact hr, ?_⟩
              have := same cells (by rw [hcs, hmin]; simp)
              rwa [setRow_self w b cells T0 (0, 0) hb] at this
            · rcases hA with ⟨_, h0⟩ | ⟨ad, rfl, hnews⟩
              · omega
              have hr := run_copy_row (P := P) w T T' o.type e b off n n ad ys'.length cc cells T0 (news.take (Nat.min ys'.length n)) hT1 hsome hb hcl
               (fun j v hv => hnews j v (by rw [List.getElem?_take] at hv; split at hv; exact hv; cases hv)) (by rw [hcl, ← Array.length_toList, hcs]; simp [hl1, hdl]; omega) (fun u hu => RepL.one' hl u (List.mem_of_mem_take hu))
              rw [hcl] at hr
              refine ⟨_, by rw [hdv, hsv]; exact hr, same _ ?_⟩
              exact hcells
           obtain ⟨w2, hr, hh⟩ := hrun
           exact wp_val (fin hr) ⟨_, hk, m, ok, hh.r.put (x := .v (.tv (.int .i64) _)) RepV.of_int o.dst, hh.f⟩
         · exact hk.elim
       · exact hk.elim
     · exact hk.elim
   · exact hk.elim
 · exact hk.elim
theorem op_len (h : Here P cx w0 ok0 m ok st a w) {c : Call} (ho : o.op = .call c) (hc : c.callee = .builtin .len) (hk : aop cx o K st) : o.wp P a w (Nxt w0 ok0 K) Q := by
 unfold aop at hk
 rw [ho] at hk
 simp only [hc] at hk
 split at hk
 · rename_i x T hargs htys
   have ea := args_one hargs
   have et := args_one htys
   unfold one at hk
   split at hk
   · rename_i q hq
     have hx := h.r.op cx T x
     rw [hq] at hx
     have hx0 : RepA0 w ok m st.hp q (a.eval x) := hx
     replace hx := peek h.r (show RepA0 w ok m st.hp q (a.eval x) from hx)
     clear hq
     unfold lenA at hk
     split at hk
     · rename_i id lo n
       unfold lenS at hk
       split at hk
       · rename_i e t e' t' xs hT hf
         obtain ⟨A, cc, hxv⟩ : ∃ A cc, a.eval x = .slice A n cc := by
          rcases hx0 _ _ _ hf with ⟨rfl, A, c, e⟩ | ⟨b, N, C, c, _, e⟩
          · exact ⟨A, c, e⟩
          · exact ⟨_, c, e⟩
         exact h.val (x := .v (.tv (.int .i64) _)) RepV.of_int (by simp [execOp, ho, resolve, hc, ea, et, invoke, builtin, hxv, Builtin.len_, run_underlying (h.cx.ty T _ hT).1, goInt]) hk
       · exact hk.elim
     · rename_i id off n e2 t2
       unfold lenW at hk
       split at hk
       · rename_i e t T2 t' x' hT hf
         obtain ⟨b, _, hxv⟩ := hx0 _ _ _ hf
         exact h.val (x := .v (.tv (.int .i64) _)) RepV.of_int (by simp [execOp, ho, resolve, hc, ea, et, invoke, builtin, hxv, Builtin.len_, run_underlying (h.cx.ty T _ hT).1, goInt]) hk
       · exact hk.elim
     unfold lenO at hk
     clear hx0
     revert hx
     split at hk
     · rename_i s hT hq
       rw [hq]
       intro hx
       have e : a.eval x = .string s := RepV.str hx
       exact h.val (x := .v (.tv (.int .i64) _)) RepV.of_int (by simp [execOp, ho, resolve, hc, ea, et, invoke, builtin, e, Builtin.len_, run_underlying (h.cx.ty T _ hT).1, goInt]) hk
     · rename_i e t e' t' xs hT hq
       rw [hq]
       intro hx
       obtain ⟨A, cc, news, hxv, _⟩ := RepV.sl hx
       exact h.val (x := .v (.tv (.int .i64) _)) RepV.of_int (by simp [execOp, ho, resolve, hc, ea, et, invoke, builtin, hxv, Builtin.len_, run_underlying (h.cx.ty T _ hT).1, goInt]) hk
     · rename_i n t hT
       intro hx
       obtain ⟨⟨e, hu, _⟩, _⟩ := h.cx.ty T _ hT
       refine h.val (x := .v (.tv (.int .i64) _)) RepV.of_int ?_ hk
       simp only [execOp, ho, resolve, hc, ea, et, invoke, builtin, Sem.run_bind, Sem.run_pure, Result.andThen_ok, Builtin.len_, List.map_toArray, List.map_cons, List.map_nil, List.getElem?_toArray, List.getElem?_cons_zero, run_underlying hu, goInt]
     · exact hk.elim
   · exact hk.elim
 · exact hk.elim
theorem op_max (h : Here P cx w0 ok0 m ok st a w) {c : Call} (ho : o.op = .call c) (hc : c.callee = .builtin .max) (hk : aop cx o K st) : o.wp P a w (Nxt w0 ok0 K) Q := by
 unfold aop at hk
 rw [ho] at hk
 simp only [hc] at hk
 split at hk
 · rename_i x y hargs
   have ea := args_two hargs
   unfold one at hk
   split at hk
   · rename_i p hp
     have hx := h.r.op cx o.type x
     rw [hp] at hx
     split at hk
     · rename_i q hq
       have hy := h.r.op cx o.type y
       rw [hq] at hy
       clear hp hq
       revert hx hy
       split at hk
       · rename_i k n k' n'
         intro hx hy
         obtain ⟨e1, hk1⟩ := stat_dec hk
         clear hk
         have hk := hk1
         clear hk1
         subst e1
         have ex : a.eval x = .int k n := RepV.int hx
         have ey : a.eval y = .int k n' := RepV.int hy
         exact h.val (x := .v (.tv (.int k) _)) RepV.of_int (by simp [execOp, ho, resolve, hc, ea, invoke, builtin, ex, ey, Builtin.max_, Builtin.max2, maxInt]) hk
       · exact hk.elim
     · exact hk.elim
   · exact hk.elim
 · exact hk.elim
theorem op_min (h : Here P cx w0 ok0 m ok st a w) {c : Call} (ho : o.op = .call c) (hc : c.callee = .builtin .min) (hk : aop cx o K st) : o.wp P a w (Nxt w0 ok0 K) Q := by
 unfold aop at hk
 rw [ho] at hk
 simp only [hc] at hk
 split at hk
 · rename_i x y hargs
   have ea := args_two hargs
   unfold one at hk
   split at hk
   · rename_i p hp
     have hx := h.r.op cx o.type x
     rw [hp] at hx
     split at hk
     · rename_i q hq
       have hy := h.r.op cx o.type y
       rw [hq] at hy
       clear hp hq
       revert hx hy
       split at hk
       · rename_i k n k' n'
         intro hx hy
         obtain ⟨e1, hk1⟩ := stat_dec hk
         clear hk
         have hk := hk1
         clear hk1
         subst e1
         have ex : a.eval x = .int k n := RepV.int hx
         have ey : a.eval y = .int k n' := RepV.int hy
         exact h.val (x := .v (.tv (.int k) _)) RepV.of_int (by simp [execOp, ho, resolve, hc, ea, invoke, builtin, ex, ey, Builtin.min_, Builtin.min2, minInt]) hk
       · exact hk.elim
     · exact hk.elim
   · exact hk.elim
 · exact hk.elim
end
end Go.Iv
