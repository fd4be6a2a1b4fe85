/- Contracts proved by hand: shelf.pages. -/
import Derived.Test.YtcpeakceigidpaaDoorVHp
import Derived.Test.YtcpeakceigidpaaDoorVHs
set_option linter.all false
namespace Go.Iw
open Go.Iv Go.Proofs Go.RowKit
def rowL : List (Nat × RowF × Nat) := []
theorem rows : AllC (fun p => RowOK Tryd.prog p.1 p.2.1 p.2.2) rowL := trivial
theorem repL_flat {α β : Type} {R : α → List Value → Prop} (f : β → α) (g : β → List Value) : ∀ l : List β, (∀ x ∈ l, R (f x) (g x)) → RepL R (l.map f) (l.flatMap g)
 | [], _ => rfl
 | x :: l, h => ⟨g x, l.flatMap g, by simp, h x (List.mem_cons_self ..), repL_flat f g l fun y hy => h y (List.mem_cons_of_mem _ hy)⟩
theorem repL_int {w : World} {ok : Nat → Prop} {k : IntKind} : ∀ {xs : List Int} {inner : List Value}, RepL (Rep w ok (.int k)) xs inner → inner = xs.map (Value.int k)
 | [], _, h => h
 | x :: xs, _, ⟨c1, c2, e, r1, r2⟩ => by
  rw [e, show c1 = [.int k x] from r1, repL_int r2]; rfl
theorem repL_of_int {w : World} {ok : Nat → Prop} {k : IntKind} : ∀ (xs : List Int), RepL (Rep w ok (.int k)) xs (xs.map (Value.int k))
 | [] => rfl
 | x :: xs => ⟨[.int k x], xs.map (Value.int k), rfl, rfl, repL_of_int xs⟩
def BC.F : List AV0 → (List AV0 → Prop) → Prop := byPs [.t (.int .i64), .t (.sl 5 (.int .u8))] fun x J => BC x.1 x.2.1 fun r => J [.own 82 tPage r]
theorem BC.good : Go.Iv.Good Tryd.prog 35 BC.F where
 fn := ⟨_, Tryd.func35, by kernel_rfl, by kernel_rfl⟩
 det := by
  intro args J hF
  unfold BC.F byPs at hF
  split at hF
  · rename_i x hx
    obtain ⟨at0, p, u⟩ := x
    have ha : args = [.tv (.int .i64) at0, .tv (.sl 5 (.int .u8)) p] := psRd_out hx
    subst ha
    obtain ⟨⟨h1, h2, h3⟩, hJ⟩ := hF
    refine ⟨_, hJ, ?_⟩
    rintro args' J' ⟨rfl, hJ'⟩ w ok vals hg hok hlen hvals
    obtain ⟨v, hv, hrv⟩ := hvals 0 _ rfl
    obtain ⟨v2, hv2, hrv2⟩ := hvals 1 _ rfl
    have rv : v = .int .i64 at0 := RepV.int (hrv [] (fun _ => undef))
    obtain ⟨A, c, inner, e2, hle, hm, hl⟩ := RepV.sl (show RepV w ok (.sl 5 (.int .u8)) p v2 from hrv2 [] (fun _ => undef))
    have hvs : vals.toArray = #[.int .i64 at0, .slice A (List.length p) c] := by
     match vals, hlen, hv, hv2 with
     | [_, _], _, hv, hv2 => cases hv; cases hv2; rw [rv, e2]
    rw [hvs]
    have key := callsIn_wide.1 (pages_in at0 h1 h2 A (List.length p) c h3 hle (hm.imp (fun h => by rw [h]; rfl) fun ⟨a, ha, _⟩ => ⟨a, ha⟩) w)
    refine key.mono ?_
    rintro e W' ⟨v', rfl, hown, hbel⟩
    have hin : inner = (show List Int from p).map (Value.int .u8) := repL_int hl
    refine ⟨_, [v'], v', ok, hJ', rfl, hbel, rfl, rfl, fun b hb => .inl hb, ?_, ?_⟩
    · intro i x hx
      match i, hx with
      | 0, hx => cases hx; exact ⟨v', rfl, fun _ _ => trivial⟩
    · intro i e t xs u hx hu
      match i, hx, hu with
      | 0, hx, hu =>
       cases hx; cases hu
       refine ⟨pgC at0 A (List.length p) (chM (List.length p)), ?_, ?_, fun b hb => ?_⟩
       · have h0 : List.length (pagesL at0 p) = chM (List.length p) := by simp [pagesL, chM]
         rw [h0]
         exact ⟨hown.1, hown.2.imp id fun ⟨g, cap, cur, e, _, h⟩ => ⟨g, cap, cur, e, Nat.zero_le _, h⟩⟩
       · unfold pagesL pgC
         refine repL_flat (R := Rep W' ok tPage) _ _ _ fun j hj => ?_
         have hj : j < chM (List.length p) := by simpa [chM] using hj
         have hjN : 64 * j < List.length p := by unfold chM at hj; omega
         have hlc : List.length ((p.drop (64 * j)).take 64) = min 64 (List.length p - 64 * j) := by simp
         obtain ⟨ad, rfl, hk, hc⟩ : ∃ ad : Addr, A = some ad ∧ ok ad.block ∧ ∀ (i : Nat) (u : Value), inner[i]? = some u → w.cell? (ad.add i) = some u := by
          rcases hm with h | h
          · rw [h] at hjN; simp at hjN
          · exact h
         refine ⟨[_], [chV (some ad) (List.length p) j], rfl, rfl, [_], [], rfl, ⟨some (ad.add (64 * j)), min 64 (List.length p - 64 * j), ((p.drop (64 * j)).take 64).map (Value.int .u8), ?_, ?_, .inr ⟨_, rfl, ?_, fun i u hu => ?_⟩, repL_of_int _⟩, rfl⟩
         · rw [hlc]; rfl
         · rw [hlc]; exact Nat.le_refl _
         · rw [add_block]; exact hk
         · rw [add_add]
           have hu2 : inner[64 * j + i]? = some u := by
            rw [hin, List.getElem?_map]
            rw [List.getElem?_map, List.getElem?_take] at hu
            split at hu
            · rw [List.getElem?_drop] at hu; exact hu
            · cases hu
           refine (World.cell?_of_block (w := w) ?_).trans (hc _ _ hu2)
           rw [add_block]
           exact hbel.block _ (hok _ hk)
       · rcases hown.2 with ⟨rfl, _⟩ | ⟨g, cap, cur, rfl, hg, _⟩
         · simp [blk] at hb
         · simp [blk] at hb
           subst hb
           exact ⟨fun h => by have := hok _ h; omega, hg⟩
  · exact hF.elim
end Go.Iw
