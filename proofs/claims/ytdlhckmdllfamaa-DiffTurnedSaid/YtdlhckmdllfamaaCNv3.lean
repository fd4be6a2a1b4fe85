/- edit.Invert: its contract. -/
import Derived.Test.YtdlhckmdllfamaaCNv2
import Derived.Test.YtdlhckmdllfamaaIvH
namespace Go.Iw
open Go.Iv Go.Proofs Go.RowKit
set_option linter.unusedVariables false
set_option linter.unusedSimpArgs false

theorem repL_cE (w : World) (ok : Nat → Prop) : ∀ ys : List Edit, RepL (Rep w ok tEdit) ys (ys.map cE).flatten
  | [] => rfl
  | y :: ys => ⟨cE y, (ys.map cE).flatten, by simp, rep_cE w ok y, repL_cE w ok ys⟩
theorem bkUp_snd (zs : List Edit) : (bkUp zs zs.length).map (fun p => invE p.2) = (zs.map invE).reverse := by
  apply List.ext_getElem
  · simp [bkUp]
  · intro i h1 h2
    have hi : i < zs.length := by simpa [bkUp] using h1
    simp [bkUp, List.getElem_reverse]
    rw [List.getElem?_eq_getElem (by omega)]
    rfl
theorem invs_all (zs : List Edit) : invs (bkUp zs zs.length) = ((zs.map invE).reverse.map cE).flatten := by
  rw [← bkUp_snd]
  simp [invs, List.map_map, Function.comp_def]

def edit.Invert.F : List AV0 → (List AV0 → Prop) → Prop := byPs [.t (.sl 49 tEdit)] fun x J => edit.Invert x.1 fun r => J [.own 49 tEdit r]
theorem edit.Invert.good : Go.Iv.Good Try.prog 30 edit.Invert.F where
  fn := ⟨_, Try.func30, by kernel_rfl, by kernel_rfl⟩
  det := by
    intro args J hF
    unfold edit.Invert.F byPs at hF
    split at hF
    · rename_i x hx
      obtain ⟨l, u⟩ := x
      have ha : args = [.tv (.sl 49 tEdit) l] := psRd_out hx
      obtain ⟨hb, hJ⟩ := hF
      refine ⟨_, hJ, ?_⟩
      rintro args' J' ⟨rfl, hJ'⟩ w ok vals hok hlen hvals
      subst ha
      obtain ⟨v, hv, hrv⟩ := hvals 0 _ rfl
      have rv : RepV w ok (.sl 49 tEdit) l v := hrv [] (fun _ => undef)
      obtain ⟨A, c, inner, rfl, hle, hm, hl⟩ := rv.sl
      have hvs : vals.toArray = #[.slice A l.length c] := by
        match vals, hlen, hv with
        | [_], _, hv => cases hv; rfl
      rw [hvs]
      have hI : Eds w.heap.size w A l := by
        rcases hm with h | ⟨ad, e, hk, hc⟩
        · exact .inl h
        · refine .inr ⟨ad, e, hok _ hk, fun k hk' j u hu => hc _ _ ?_⟩
          obtain ⟨c1, d, e1, hcs, hlc, hr, hd⟩ := RepL.get (s := tEdit.size) (fun x c r => Rep.len r) hl hk'
          have e2 : l[k]?.getD Edit.z = l[k] := by rw [List.getElem?_eq_getElem hk']; rfl
          rw [e2, ← rep_eq hr] at hu
          have hj := (List.getElem?_eq_some_iff.1 hu).1
          have hs : tEdit.size = 16 := rfl
          rw [hcs, show k * 16 + j = c1.length + j from by rw [hlc, hs], List.getElem?_append_left (by simp; omega), List.getElem?_append_right (by omega)]
          simpa using hu
      have key := callsIn_wide.1 (inv_in Fence.wide 3 trivial trivial trivial rfl (by omega) A c l hb w hI)
      refine key.mono ?_
      rintro e W' ⟨v', rfl, hown, hbel⟩
      rw [invs_all] at hown
      have h0 : W'.ownsRow 0 49 16 v' l.length ((l.map invE).reverse.map cE).flatten := ⟨hown.1, hown.2.imp id fun ⟨g, cap, cur, e, _, h⟩ => ⟨g, cap, cur, e, Nat.zero_le _, h⟩⟩
      refine ⟨_, [v'], v', ok, hJ', rfl, hbel, rfl, rfl, fun b hb => .inl hb, ?_, ?_⟩
      · intro i x hx
        match i, hx with
        | 0, hx => cases hx; exact ⟨v', rfl, fun _ _ => trivial⟩
      · intro i e t xs u hx hu
        match i, hx, hu with
        | 0, hx, hu =>
          cases hx; cases hu
          refine ⟨_, ?_, repL_cE W' ok _, fun b hb => ?_⟩
          · have hs : tEdit.size = 16 := rfl
            rw [List.length_reverse, List.length_map, hs]
            exact h0
          · rcases hown.2 with ⟨rfl, _⟩ | ⟨g, cap, cur, rfl, hg, _⟩
            · simp [blk] at hb
            · simp [blk] at hb
              subst hb
              exact ⟨fun h => by have := hok _ h; omega, hg⟩
    · exact hF.elim
end Go.Iw
