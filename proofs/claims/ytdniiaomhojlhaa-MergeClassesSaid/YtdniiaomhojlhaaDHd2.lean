/- rules.Check: its contract. -/
import Derived.Test.YtdniiaomhojlhaaDCk
namespace Go.Iw
open Go.Iv Go.Proofs Go.RowKit Go.Shelf Ck
set_option linter.unusedVariables false
set_option linter.unusedSimpArgs false

def rules.Check.F : List AV0 → (List AV0 → Prop) → Prop := byPs [.t (.sl 27 tElem)] fun x J => rules.Check x.1 fun r => J [.tv tFault r]
theorem rules.Check.good : Go.Iv.Good Try.prog 42 rules.Check.F where
  fn := ⟨_, Try.func42, by kernel_rfl, by kernel_rfl⟩
  det := by
    intro args J hF
    unfold rules.Check.F byPs at hF
    split at hF
    · rename_i x hx
      obtain ⟨c, u⟩ := x
      have ha : args = [.tv (.sl 27 tElem) c] := psRd_out hx
      have hF : rules.Check c fun r => J [.tv tFault r] := hF
      subst ha
      obtain ⟨f, hJ, hD⟩ := check_det c _ hF
      refine ⟨_, hJ, ?_⟩
      rintro args' J' ⟨rfl, hJ'⟩ w ok vals hok hlen hvals
      obtain ⟨v, hv, hrv⟩ := hvals 0 _ rfl
      have rv : RepV w ok (.sl 27 tElem) c v := hrv [] (fun _ => undef)
      have hvs : vals.toArray = #[v] := by
        match vals, hlen, hv with
        | [_], _, hv => cases hv; rfl
      rw [hvs]
      refine (callsIn_wide.1 (check_in c _ hD w ok v hok rv)).mono ?_
      rintro e W' ⟨f', rfl, rfl, hbel⟩
      refine ⟨_, [.agg #[.int .i64 f'.1, .int .i64 f'.2.1]], .agg #[.int .i64 f'.1, .int .i64 f'.2.1], ok, hJ', rfl, hbel, rfl, rfl, fun b hb => .inl hb, ?_, ?_⟩
      · intro i x hx
        match i, hx with
        | 0, hx => cases hx; exact ⟨_, rfl, fun _ _ => ⟨[.int .i64 f'.1, .int .i64 f'.2.1], by simp [Rep], rfl⟩⟩
      · intro i e t xs u hx hu
        match i, hx, hu with
        | 0, hx, hu => cases hx
    · exact hF.elim
end Go.Iw
